
/- The walks of the reference's functions over mail addresses, ranges, general names, constraints: exact.
   Conditions: none. -/
import Derived.Test.YthhjfcmkelmobaaGreatWkHost
namespace Go.Proofs.YthhjfcmkelmobaaGreat.Aw
open Go
set_option maxRecDepth 100000
set_option maxHeartbeats 4000000
set_option linter.unusedSimpArgs false
set_option linter.unusedVariables false

def mailBaseB (s : ByteArray) : Bool := partsOk s || (dnsB s || (decide ((s.size : Int) ≤ 128) && (decide ((s.size : Int) > 1) && (bt s 0 == 46 && dnsB (s.extract 1 s.size)))))
def mailMatchB (a b : ByteArray) : Bool := partsOk a && (partsOk b && (seq (partL a) (partL b) && alikeB (partD a) (partD b)))
def mailWithinB (s b : ByteArray) : Bool := mailBaseB b && if partsOk s then (if partsOk b then mailMatchB s b else alikeB (partD s) b || (bt b 0 == 46 && endsB (partD s) b)) else mailBaseB s && (!partsOk b && (alikeB s b || (bt b 0 == 46 && endsB s b)))
theorem partL_size (s : ByteArray) : (partL s).size ≤ s.size := by
  have := atK_le s
  unfold partL
  split
  · simp only [ByteArray.size_extract]; omega
  · exact Nat.zero_le _
theorem partD_size (s : ByteArray) : (partD s).size ≤ s.size := by
  have := atK_le s
  unfold partD
  split
  · simp only [ByteArray.size_extract]; omega
  · exact Nat.zero_le _
theorem dnsB_ne {s : ByteArray} (h : dnsB s = true) : 0 < s.size := by
  rcases Nat.eq_zero_or_pos s.size with h0 | h0
  · rw [dnsB, Bool.and_eq_true] at h
    have e : splitS s 46 = [s.extract 0 0] := by rw [splitS, h0]; simp [splitSt, h0]
    rw [e] at h
    have h2 := h.2
    simp only [List.all_cons, List.all_nil, Bool.and_true] at h2
    rw [labB_no (.inl (by simp))] at h2
    exact Bool.noConfusion h2
  · exact h0
theorem partsOk_ne {s : ByteArray} (h : partsOk s = true) : 0 < s.size := by
  have := atK_le s
  simp only [partsOk, Bool.and_eq_true, Bool.not_eq_true', Bool.or_eq_false_iff] at h
  have := h.2.1.1
  simp at this
  omega
theorem mailBaseB_ne {s : ByteArray} (h : mailBaseB s = true) : 0 < s.size := by
  rw [mailBaseB, Bool.or_eq_true, Bool.or_eq_true] at h
  rcases h with h | h | h
  · exact partsOk_ne h
  · exact dnsB_ne h
  · simp only [Bool.and_eq_true] at h
    have := h.2.1
    simp at this
    omega
-- f140 certpath/certpathref07.Mail
theorem F140 (s : ByteArray) (hs : s.size ≤ 1099511627776) : Fn Tryz.prog 78 [.pv (sc (.string s))] [] (fun r _ => r = sc (.bool (partsOk s))) := by
  refine Fn.intro (rs := [.tmp 2]) hT Tryz.func78 (by kernel_rfl) rfl rfl rfl rfl fun C => ?_
  repeat (first | refine AwOps.nil ?_ | refine AwSch.nil ?_ | refine Aw.seq ?_ | refine Aw.region ?_ | refine Aw.block ?_ | refine Aw.skip ?_ | refine Aw.exit ?_ | refine Aw.condT rfl ?_ | refine Aw.condF rfl ?_)
  refine AwOps.v hT rfl ?_
  repeat (first | refine AwOps.nil ?_ | refine AwSch.nil ?_ | refine Aw.seq ?_ | refine Aw.region ?_ | refine Aw.block ?_ | refine Aw.skip ?_ | refine Aw.exit ?_ | refine Aw.condT rfl ?_ | refine Aw.condF rfl ?_)
  refine AwOps.v hT rfl ?_
  refine AwOps.cl (F139 _ (by first | omega | (simp only [ByteArray.size_extract, ByteArray.size_append, loI, hiI]; omega))) [] rfl ⟨⟨rfl, rfl⟩, trivial⟩ trivial rfl ?_   -- certpathref07.parts
  rintro _ _ rfl
  iterate 7 refine AwOps.v hT rfl ?_
  repeat (first | refine AwOps.nil ?_ | refine AwSch.nil ?_ | refine Aw.seq ?_ | refine Aw.region ?_ | refine Aw.block ?_ | refine Aw.skip ?_ | refine Aw.exit ?_ | refine Aw.condT rfl ?_ | refine Aw.condF rfl ?_)
  refine AwOps.v hT rfl ?_
  refine AwOps.v hT rfl ?_
  repeat (first | refine AwOps.nil ?_ | refine AwSch.nil ?_ | refine Aw.seq ?_ | refine Aw.region ?_ | refine Aw.block ?_ | refine Aw.skip ?_ | refine Aw.exit ?_ | refine Aw.condT rfl ?_ | refine Aw.condF rfl ?_)
  refine Aw.ret ?_
  refine ⟨_, [], rfl, trivial, ?_⟩
  exact rfl
-- f141 certpath/certpathref07.MailMatch
theorem F141 (a b : ByteArray) (ha : a.size ≤ 1099511627776) (hb : b.size ≤ 1099511627776) : Fn Tryz.prog 79 [.pv (sc (.string a)), .pv (sc (.string b))] [] (fun r _ => r = sc (.bool (mailMatchB a b))) := by
  refine Fn.intro (rs := [.tmp 4]) hT Tryz.func79 (by kernel_rfl) rfl rfl rfl rfl fun C => ?_
  repeat (first | refine AwOps.nil ?_ | refine AwSch.nil ?_ | refine Aw.seq ?_ | refine Aw.region ?_ | refine Aw.block ?_ | refine Aw.skip ?_ | refine Aw.exit ?_ | refine Aw.condT rfl ?_ | refine Aw.condF rfl ?_)
  refine AwOps.v hT rfl ?_
  repeat (first | refine AwOps.nil ?_ | refine AwSch.nil ?_ | refine Aw.seq ?_ | refine Aw.region ?_ | refine Aw.block ?_ | refine Aw.skip ?_ | refine Aw.exit ?_ | refine Aw.condT rfl ?_ | refine Aw.condF rfl ?_)
  refine AwOps.v hT rfl ?_
  refine AwOps.cl (F139 _ (by first | omega | (simp only [ByteArray.size_extract, ByteArray.size_append, loI, hiI]; omega))) [] rfl ⟨⟨rfl, rfl⟩, trivial⟩ trivial rfl ?_   -- certpathref07.parts
  rintro _ _ rfl
  iterate 7 refine AwOps.v hT rfl ?_
  repeat (first | refine AwOps.nil ?_ | refine AwSch.nil ?_ | refine Aw.seq ?_ | refine Aw.region ?_ | refine Aw.block ?_ | refine Aw.skip ?_ | refine Aw.exit ?_ | refine Aw.condT rfl ?_ | refine Aw.condF rfl ?_)
  refine AwOps.v hT rfl ?_
  refine AwOps.cl (F139 _ (by first | omega | (simp only [ByteArray.size_extract, ByteArray.size_append, loI, hiI]; omega))) [] rfl ⟨⟨rfl, rfl⟩, trivial⟩ trivial rfl ?_   -- certpathref07.parts
  rintro _ _ rfl
  iterate 7 refine AwOps.v hT rfl ?_
  repeat (first | refine AwOps.nil ?_ | refine AwSch.nil ?_ | refine Aw.seq ?_ | refine Aw.region ?_ | refine Aw.block ?_ | refine Aw.skip ?_ | refine Aw.exit ?_ | refine Aw.condT rfl ?_ | refine Aw.condF rfl ?_)
  refine AwOps.v hT rfl ?_
  refine AwOps.v hT rfl ?_
  refine AwOps.split (t := 24) rfl (fun hb24 => ?_) (fun hb24 => ?_)
  · skip
    iterate 3 refine AwOps.v hT rfl ?_
    refine AwOps.split (t := 27) rfl (fun hb27 => ?_) (fun hb27 => ?_)
    · skip
      iterate 5 refine AwOps.v hT rfl ?_
      refine AwOps.split (t := 32) rfl (fun hb32 => ?_) (fun hb32 => ?_)
      · skip
        refine AwOps.v hT rfl ?_
        refine AwOps.v hT rfl ?_
        refine AwOps.cl (F142 _ _ (by have := partL_size a; have := partL_size b; have := partD_size a; have := partD_size b; omega) (by have := partL_size a; have := partL_size b; have := partD_size a; have := partD_size b; omega)) [] rfl ⟨⟨rfl, rfl⟩, ⟨rfl, rfl⟩, trivial⟩ trivial rfl ?_   -- certpathref07.alike
        rintro _ _ rfl
        refine AwOps.v hT rfl ?_
        refine AwOps.v hT rfl ?_
        repeat (first | refine AwOps.nil ?_ | refine AwSch.nil ?_ | refine Aw.seq ?_ | refine Aw.region ?_ | refine Aw.block ?_ | refine Aw.skip ?_ | refine Aw.exit ?_ | refine Aw.condT rfl ?_ | refine Aw.condF rfl ?_)
        refine Aw.ret ?_
        refine ⟨_, [], rfl, trivial, ?_⟩
        exact scb (by rw [mailMatchB]; simp only [show (partsOk a) = true from hb24, show (partsOk b) = true from hb27, show (seq (partL a) (partL b)) = true from hb32, Bool.true_and, Bool.false_and, Bool.true_or, Bool.false_or, Bool.or_true, Bool.and_true, Bool.or_false, Bool.and_false, Bool.not_true, Bool.not_false] <;> first | done | rfl | (simp; done))
      · skip
        iterate 5 refine AwOps.v hT rfl ?_
        repeat (first | refine AwOps.nil ?_ | refine AwSch.nil ?_ | refine Aw.seq ?_ | refine Aw.region ?_ | refine Aw.block ?_ | refine Aw.skip ?_ | refine Aw.exit ?_ | refine Aw.condT rfl ?_ | refine Aw.condF rfl ?_)
        refine Aw.ret ?_
        refine ⟨_, [], rfl, trivial, ?_⟩
        exact scb (by rw [mailMatchB]; simp only [show (partsOk a) = true from hb24, show (partsOk b) = true from hb27, show (seq (partL a) (partL b)) = false from hb32, Bool.true_and, Bool.false_and, Bool.true_or, Bool.false_or, Bool.or_true, Bool.and_true, Bool.or_false, Bool.and_false, Bool.not_true, Bool.not_false] <;> first | done | rfl | (simp; done))
    · skip
      iterate 10 refine AwOps.v hT rfl ?_
      repeat (first | refine AwOps.nil ?_ | refine AwSch.nil ?_ | refine Aw.seq ?_ | refine Aw.region ?_ | refine Aw.block ?_ | refine Aw.skip ?_ | refine Aw.exit ?_ | refine Aw.condT rfl ?_ | refine Aw.condF rfl ?_)
      refine Aw.ret ?_
      refine ⟨_, [], rfl, trivial, ?_⟩
      exact scb (by rw [mailMatchB]; simp only [show (partsOk a) = true from hb24, show (partsOk b) = false from hb27, Bool.true_and, Bool.false_and, Bool.true_or, Bool.false_or, Bool.or_true, Bool.and_true, Bool.or_false, Bool.and_false, Bool.not_true, Bool.not_false] <;> first | done | rfl | (simp; done))
  · skip
    iterate 13 refine AwOps.v hT rfl ?_
    repeat (first | refine AwOps.nil ?_ | refine AwSch.nil ?_ | refine Aw.seq ?_ | refine Aw.region ?_ | refine Aw.block ?_ | refine Aw.skip ?_ | refine Aw.exit ?_ | refine Aw.condT rfl ?_ | refine Aw.condF rfl ?_)
    refine Aw.ret ?_
    refine ⟨_, [], rfl, trivial, ?_⟩
    exact scb (by rw [mailMatchB]; simp only [show (partsOk a) = false from hb24, Bool.true_and, Bool.false_and, Bool.true_or, Bool.false_or, Bool.or_true, Bool.and_true, Bool.or_false, Bool.and_false, Bool.not_true, Bool.not_false] <;> first | done | rfl | (simp; done))
-- f138 certpath/certpathref07.MailBase
theorem F138 (s : ByteArray) (hs : s.size ≤ 1099511627776) : Fn Tryz.prog 76 [.pv (sc (.string s))] [] (fun r _ => r = sc (.bool (mailBaseB s))) := by
  refine Fn.intro (rs := [.tmp 2]) hT Tryz.func76 (by kernel_rfl) rfl rfl rfl rfl fun C => ?_
  repeat (first | refine AwOps.nil ?_ | refine AwSch.nil ?_ | refine Aw.seq ?_ | refine Aw.region ?_ | refine Aw.block ?_ | refine Aw.skip ?_ | refine Aw.exit ?_ | refine Aw.condT rfl ?_ | refine Aw.condF rfl ?_)
  refine AwOps.v hT rfl ?_
  repeat (first | refine AwOps.nil ?_ | refine AwSch.nil ?_ | refine Aw.seq ?_ | refine Aw.region ?_ | refine Aw.block ?_ | refine Aw.skip ?_ | refine Aw.exit ?_ | refine Aw.condT rfl ?_ | refine Aw.condF rfl ?_)
  refine AwOps.v hT rfl ?_
  refine AwOps.cl (F140 _ (by first | omega | (simp only [ByteArray.size_extract, ByteArray.size_append, loI, hiI]; omega))) [] rfl ⟨⟨rfl, rfl⟩, trivial⟩ trivial rfl ?_   -- certpathref07.Mail
  rintro _ _ rfl
  refine AwOps.v hT rfl ?_
  refine AwOps.split (t := 5) rfl (fun hb5 => ?_) (fun hb5 => ?_)
  · skip
    iterate 24 refine AwOps.v hT rfl ?_
    repeat (first | refine AwOps.nil ?_ | refine AwSch.nil ?_ | refine Aw.seq ?_ | refine Aw.region ?_ | refine Aw.block ?_ | refine Aw.skip ?_ | refine Aw.exit ?_ | refine Aw.condT rfl ?_ | refine Aw.condF rfl ?_)
    refine Aw.ret ?_
    refine ⟨_, [], rfl, trivial, ?_⟩
    exact scb (by rw [mailBaseB]; simp only [show (partsOk s) = true from hb5, Bool.true_and, Bool.false_and, Bool.true_or, Bool.false_or, Bool.or_true, Bool.and_true, Bool.or_false, Bool.and_false, Bool.not_true, Bool.not_false] <;> first | done | rfl | (simp; done))
  · skip
    refine AwOps.v hT rfl ?_
    refine AwOps.cl (F148 _ (by first | omega | (simp only [ByteArray.size_extract, ByteArray.size_append, loI, hiI]; omega))) [] rfl ⟨⟨rfl, rfl⟩, trivial⟩ trivial rfl ?_   -- certpathref07.DNS
    rintro _ _ rfl
    refine AwOps.v hT rfl ?_
    refine AwOps.v hT rfl ?_
    refine AwOps.split (t := 9) rfl (fun hb9 => ?_) (fun hb9 => ?_)
    · skip
      iterate 20 refine AwOps.v hT rfl ?_
      repeat (first | refine AwOps.nil ?_ | refine AwSch.nil ?_ | refine Aw.seq ?_ | refine Aw.region ?_ | refine Aw.block ?_ | refine Aw.skip ?_ | refine Aw.exit ?_ | refine Aw.condT rfl ?_ | refine Aw.condF rfl ?_)
      refine Aw.ret ?_
      refine ⟨_, [], rfl, trivial, ?_⟩
      exact scb (by rw [mailBaseB]; simp only [show (partsOk s) = false from hb5, show (dnsB s) = true from hb9, Bool.true_and, Bool.false_and, Bool.true_or, Bool.false_or, Bool.or_true, Bool.and_true, Bool.or_false, Bool.and_false, Bool.not_true, Bool.not_false] <;> first | done | rfl | (simp; done))
    · skip
      iterate 4 refine AwOps.v hT rfl ?_
      refine AwOps.split (t := 13) rfl (fun hb13 => ?_) (fun hb13 => ?_)
      · skip
        iterate 5 refine AwOps.v hT rfl ?_
        refine AwOps.split (t := 18) rfl (fun hb18 => ?_) (fun hb18 => ?_)
        · skip
          have hx18 := of_decide_eq_true hb18
          refine AwOps.v hT rfl ?_
          refine AwOps.byte hT rfl (by omega) (by omega) ?_
          iterate 3 refine AwOps.v hT rfl ?_
          refine AwOps.split (t := 23) rfl (fun hb23 => ?_) (fun hb23 => ?_)
          · skip
            refine AwOps.v hT rfl ?_
            refine AwOps.sls hT rfl (by simp only [loI]; first | omega | (simp only [w64] at *; omega) | (simp [w64] at *; omega)) (by simp only [loI, hiI]; first | omega | (simp only [w64] at *; omega) | (simp [w64] at *; omega)) (by simp only [hiI]; first | omega | (simp only [w64] at *; omega) | (simp [w64] at *; omega)) ?_
            refine AwOps.cl (F148 _ (by first | omega | (simp only [ByteArray.size_extract, ByteArray.size_append, loI, hiI]; omega))) [] rfl ⟨⟨rfl, rfl⟩, trivial⟩ trivial rfl ?_   -- certpathref07.DNS
            rintro _ _ rfl
            iterate 3 refine AwOps.v hT rfl ?_
            repeat (first | refine AwOps.nil ?_ | refine AwSch.nil ?_ | refine Aw.seq ?_ | refine Aw.region ?_ | refine Aw.block ?_ | refine Aw.skip ?_ | refine Aw.exit ?_ | refine Aw.condT rfl ?_ | refine Aw.condF rfl ?_)
            refine Aw.ret ?_
            refine ⟨_, [], rfl, trivial, ?_⟩
            exact scb (by rw [mailBaseB]; simp only [show (partsOk s) = false from hb5, show (dnsB s) = false from hb9, show (decide ((s.size : Int) ≤ 128)) = true from hb13, show (decide ((s.size : Int) > 1)) = true from hb18, show (bt s 0 == 46) = true from hb23, Bool.true_and, Bool.false_and, Bool.true_or, Bool.false_or, Bool.or_true, Bool.and_true, Bool.or_false, Bool.and_false, Bool.not_true, Bool.not_false] <;> first | done | rfl | (simp; done))
          · skip
            iterate 6 refine AwOps.v hT rfl ?_
            repeat (first | refine AwOps.nil ?_ | refine AwSch.nil ?_ | refine Aw.seq ?_ | refine Aw.region ?_ | refine Aw.block ?_ | refine Aw.skip ?_ | refine Aw.exit ?_ | refine Aw.condT rfl ?_ | refine Aw.condF rfl ?_)
            refine Aw.ret ?_
            refine ⟨_, [], rfl, trivial, ?_⟩
            exact scb (by rw [mailBaseB]; simp only [show (partsOk s) = false from hb5, show (dnsB s) = false from hb9, show (decide ((s.size : Int) ≤ 128)) = true from hb13, show (decide ((s.size : Int) > 1)) = true from hb18, show (bt s 0 == 46) = false from hb23, Bool.true_and, Bool.false_and, Bool.true_or, Bool.false_or, Bool.or_true, Bool.and_true, Bool.or_false, Bool.and_false, Bool.not_true, Bool.not_false] <;> first | done | rfl | (simp; done))
        · skip
          iterate 11 refine AwOps.v hT rfl ?_
          repeat (first | refine AwOps.nil ?_ | refine AwSch.nil ?_ | refine Aw.seq ?_ | refine Aw.region ?_ | refine Aw.block ?_ | refine Aw.skip ?_ | refine Aw.exit ?_ | refine Aw.condT rfl ?_ | refine Aw.condF rfl ?_)
          refine Aw.ret ?_
          refine ⟨_, [], rfl, trivial, ?_⟩
          exact scb (by rw [mailBaseB]; simp only [show (partsOk s) = false from hb5, show (dnsB s) = false from hb9, show (decide ((s.size : Int) ≤ 128)) = true from hb13, show (decide ((s.size : Int) > 1)) = false from hb18, Bool.true_and, Bool.false_and, Bool.true_or, Bool.false_or, Bool.or_true, Bool.and_true, Bool.or_false, Bool.and_false, Bool.not_true, Bool.not_false] <;> first | done | rfl | (simp; done))
      · skip
        iterate 16 refine AwOps.v hT rfl ?_
        repeat (first | refine AwOps.nil ?_ | refine AwSch.nil ?_ | refine Aw.seq ?_ | refine Aw.region ?_ | refine Aw.block ?_ | refine Aw.skip ?_ | refine Aw.exit ?_ | refine Aw.condT rfl ?_ | refine Aw.condF rfl ?_)
        refine Aw.ret ?_
        refine ⟨_, [], rfl, trivial, ?_⟩
        exact scb (by rw [mailBaseB]; simp only [show (partsOk s) = false from hb5, show (dnsB s) = false from hb9, show (decide ((s.size : Int) ≤ 128)) = false from hb13, Bool.true_and, Bool.false_and, Bool.true_or, Bool.false_or, Bool.or_true, Bool.and_true, Bool.or_false, Bool.and_false, Bool.not_true, Bool.not_false] <;> first | done | rfl | (simp; done))
-- f135 certpath/certpathref07.MailWithin
theorem F135 (a b : ByteArray) (ha : a.size ≤ 1099511627776) (hb : b.size ≤ 1099511627776) : Fn Tryz.prog 66 [.pv (sc (.string a)), .pv (sc (.string b))] [] (fun r _ => r = sc (.bool (mailWithinB a b))) := by
  refine Fn.intro (rs := [.tmp 4]) hT Tryz.func66 (by kernel_rfl) rfl rfl rfl rfl fun C => ?_
  repeat (first | refine AwOps.nil ?_ | refine AwSch.nil ?_ | refine Aw.seq ?_ | refine Aw.region ?_ | refine Aw.block ?_ | refine Aw.skip ?_ | refine Aw.exit ?_ | refine Aw.condT rfl ?_ | refine Aw.condF rfl ?_)
  refine AwOps.v hT rfl ?_
  repeat (first | refine AwOps.nil ?_ | refine AwSch.nil ?_ | refine Aw.seq ?_ | refine Aw.region ?_ | refine Aw.block ?_ | refine Aw.skip ?_ | refine Aw.exit ?_ | refine Aw.condT rfl ?_ | refine Aw.condF rfl ?_)
  refine AwOps.v hT rfl ?_
  refine AwOps.cl (F138 _ (by first | omega | (simp only [ByteArray.size_extract, ByteArray.size_append, loI, hiI]; omega))) [] rfl ⟨⟨rfl, rfl⟩, trivial⟩ trivial rfl ?_   -- certpathref07.MailBase
  rintro _ _ rfl
  refine AwOps.v hT rfl ?_
  repeat (first | refine AwOps.nil ?_ | refine AwSch.nil ?_ | refine Aw.seq ?_ | refine Aw.region ?_ | refine Aw.block ?_ | refine Aw.skip ?_ | refine Aw.exit ?_ | refine Aw.condT rfl ?_ | refine Aw.condF rfl ?_)
  refine Aw.tst rfl (fun hb10 => ?_) (fun hb10 => ?_)
  · skip
    repeat (first | refine AwOps.nil ?_ | refine AwSch.nil ?_ | refine Aw.seq ?_ | refine Aw.region ?_ | refine Aw.block ?_ | refine Aw.skip ?_ | refine Aw.exit ?_ | refine Aw.condT rfl ?_ | refine Aw.condF rfl ?_)
    refine AwOps.v hT rfl ?_
    repeat (first | refine AwOps.nil ?_ | refine AwSch.nil ?_ | refine Aw.seq ?_ | refine Aw.region ?_ | refine Aw.block ?_ | refine Aw.skip ?_ | refine Aw.exit ?_ | refine Aw.condT rfl ?_ | refine Aw.condF rfl ?_)
    refine Aw.ret ?_
    refine ⟨_, [], rfl, trivial, ?_⟩
    exact scb (by rw [mailWithinB]; simp only [show (mailBaseB b) = false by simpa using hb10, if_true, if_false, Bool.false_eq_true, Bool.true_and, Bool.false_and, Bool.true_or, Bool.false_or, Bool.or_true, Bool.and_true, Bool.or_false, Bool.and_false, Bool.not_true, Bool.not_false] <;> first | done | rfl | (simp; done))
  · skip
    have hbn : mailBaseB b = true := by simpa using hb10
    have hb0 := mailBaseB_ne hbn
    repeat (first | refine AwOps.nil ?_ | refine AwSch.nil ?_ | refine Aw.seq ?_ | refine Aw.region ?_ | refine Aw.block ?_ | refine Aw.skip ?_ | refine Aw.exit ?_ | refine Aw.condT rfl ?_ | refine Aw.condF rfl ?_)
    refine AwOps.v hT rfl ?_
    refine AwOps.cl (F139 _ (by first | omega | (simp only [ByteArray.size_extract, ByteArray.size_append, loI, hiI]; omega))) [] rfl ⟨⟨rfl, rfl⟩, trivial⟩ trivial rfl ?_   -- certpathref07.parts
    rintro _ _ rfl
    iterate 7 refine AwOps.v hT rfl ?_
    repeat (first | refine AwOps.nil ?_ | refine AwSch.nil ?_ | refine Aw.seq ?_ | refine Aw.region ?_ | refine Aw.block ?_ | refine Aw.skip ?_ | refine Aw.exit ?_ | refine Aw.condT rfl ?_ | refine Aw.condF rfl ?_)
    refine AwOps.v hT rfl ?_
    repeat (first | refine AwOps.nil ?_ | refine AwSch.nil ?_ | refine Aw.seq ?_ | refine Aw.region ?_ | refine Aw.block ?_ | refine Aw.skip ?_ | refine Aw.exit ?_ | refine Aw.condT rfl ?_ | refine Aw.condF rfl ?_)
    refine Aw.tst rfl (fun hb17 => ?_) (fun hb17 => ?_)
    · skip
      repeat (first | refine AwOps.nil ?_ | refine AwSch.nil ?_ | refine Aw.seq ?_ | refine Aw.region ?_ | refine Aw.block ?_ | refine Aw.skip ?_ | refine Aw.exit ?_ | refine Aw.condT rfl ?_ | refine Aw.condF rfl ?_)
      refine AwOps.v hT rfl ?_
      refine AwOps.cl (F140 _ (by first | omega | (simp only [ByteArray.size_extract, ByteArray.size_append, loI, hiI]; omega))) [] rfl ⟨⟨rfl, rfl⟩, trivial⟩ trivial rfl ?_   -- certpathref07.Mail
      rintro _ _ rfl
      repeat (first | refine AwOps.nil ?_ | refine AwSch.nil ?_ | refine Aw.seq ?_ | refine Aw.region ?_ | refine Aw.block ?_ | refine Aw.skip ?_ | refine Aw.exit ?_ | refine Aw.condT rfl ?_ | refine Aw.condF rfl ?_)
      refine Aw.tst rfl (fun hb19 => ?_) (fun hb19 => ?_)
      · skip
        repeat (first | refine AwOps.nil ?_ | refine AwSch.nil ?_ | refine Aw.seq ?_ | refine Aw.region ?_ | refine Aw.block ?_ | refine Aw.skip ?_ | refine Aw.exit ?_ | refine Aw.condT rfl ?_ | refine Aw.condF rfl ?_)
        refine AwOps.v hT rfl ?_
        refine AwOps.v hT rfl ?_
        refine AwOps.cl (F141 _ _ (by first | omega | (simp only [ByteArray.size_extract, ByteArray.size_append, loI, hiI]; omega)) (by first | omega | (simp only [ByteArray.size_extract, ByteArray.size_append, loI, hiI]; omega))) [] rfl ⟨⟨rfl, rfl⟩, ⟨rfl, rfl⟩, trivial⟩ trivial rfl ?_   -- certpathref07.MailMatch
        rintro _ _ rfl
        refine AwOps.v hT rfl ?_
        repeat (first | refine AwOps.nil ?_ | refine AwSch.nil ?_ | refine Aw.seq ?_ | refine Aw.region ?_ | refine Aw.block ?_ | refine Aw.skip ?_ | refine Aw.exit ?_ | refine Aw.condT rfl ?_ | refine Aw.condF rfl ?_)
        refine Aw.ret ?_
        refine ⟨_, [], rfl, trivial, ?_⟩
        exact scb (by rw [mailWithinB]; simp only [show (mailBaseB b) = true by simpa using hb10, show (partsOk a) = true from hb17, show (partsOk b) = true from hb19, if_true, if_false, Bool.false_eq_true, Bool.true_and, Bool.false_and, Bool.true_or, Bool.false_or, Bool.or_true, Bool.and_true, Bool.or_false, Bool.and_false, Bool.not_true, Bool.not_false] <;> first | done | rfl | (simp; done))
      · skip
        repeat (first | refine AwOps.nil ?_ | refine AwSch.nil ?_ | refine Aw.seq ?_ | refine Aw.region ?_ | refine Aw.block ?_ | refine Aw.skip ?_ | refine Aw.exit ?_ | refine Aw.condT rfl ?_ | refine Aw.condF rfl ?_)
        refine AwOps.v hT rfl ?_
        refine AwOps.v hT rfl ?_
        refine AwOps.cl (F142 _ _ (by have := partL_size a; have := partL_size b; have := partD_size a; have := partD_size b; omega) (by have := partL_size a; have := partL_size b; have := partD_size a; have := partD_size b; omega)) [] rfl ⟨⟨rfl, rfl⟩, ⟨rfl, rfl⟩, trivial⟩ trivial rfl ?_   -- certpathref07.alike
        rintro _ _ rfl
        refine AwOps.v hT rfl ?_
        refine AwOps.split (t := 26) rfl (fun hb26 => ?_) (fun hb26 => ?_)
        · skip
          iterate 10 refine AwOps.v hT rfl ?_
          repeat (first | refine AwOps.nil ?_ | refine AwSch.nil ?_ | refine Aw.seq ?_ | refine Aw.region ?_ | refine Aw.block ?_ | refine Aw.skip ?_ | refine Aw.exit ?_ | refine Aw.condT rfl ?_ | refine Aw.condF rfl ?_)
          refine Aw.ret ?_
          refine ⟨_, [], rfl, trivial, ?_⟩
          exact scb (by rw [mailWithinB]; simp only [show (mailBaseB b) = true by simpa using hb10, show (partsOk a) = true from hb17, show (partsOk b) = false from hb19, show (alikeB (partD a) b) = true from hb26, if_true, if_false, Bool.false_eq_true, Bool.true_and, Bool.false_and, Bool.true_or, Bool.false_or, Bool.or_true, Bool.and_true, Bool.or_false, Bool.and_false, Bool.not_true, Bool.not_false] <;> first | done | rfl | (simp; done))
        · skip
          refine AwOps.v hT rfl ?_
          refine AwOps.byte hT rfl (by omega) (by omega) ?_
          refine AwOps.v hT rfl ?_
          refine AwOps.v hT rfl ?_
          refine AwOps.split (t := 30) rfl (fun hb30 => ?_) (fun hb30 => ?_)
          · skip
            refine AwOps.v hT rfl ?_
            refine AwOps.v hT rfl ?_
            refine AwOps.cl (F143 _ _ (by have := partL_size a; have := partL_size b; have := partD_size a; have := partD_size b; omega) (by have := partL_size a; have := partL_size b; have := partD_size a; have := partD_size b; omega)) [] rfl ⟨⟨rfl, rfl⟩, ⟨rfl, rfl⟩, trivial⟩ trivial rfl ?_   -- certpathref07.ends
            rintro _ _ rfl
            iterate 3 refine AwOps.v hT rfl ?_
            repeat (first | refine AwOps.nil ?_ | refine AwSch.nil ?_ | refine Aw.seq ?_ | refine Aw.region ?_ | refine Aw.block ?_ | refine Aw.skip ?_ | refine Aw.exit ?_ | refine Aw.condT rfl ?_ | refine Aw.condF rfl ?_)
            refine Aw.ret ?_
            refine ⟨_, [], rfl, trivial, ?_⟩
            exact scb (by rw [mailWithinB]; simp only [show (mailBaseB b) = true by simpa using hb10, show (partsOk a) = true from hb17, show (partsOk b) = false from hb19, show (alikeB (partD a) b) = false from hb26, show (bt b 0 == 46) = true from hb30, if_true, if_false, Bool.false_eq_true, Bool.true_and, Bool.false_and, Bool.true_or, Bool.false_or, Bool.or_true, Bool.and_true, Bool.or_false, Bool.and_false, Bool.not_true, Bool.not_false] <;> first | done | rfl | (simp; done))
          · skip
            iterate 6 refine AwOps.v hT rfl ?_
            repeat (first | refine AwOps.nil ?_ | refine AwSch.nil ?_ | refine Aw.seq ?_ | refine Aw.region ?_ | refine Aw.block ?_ | refine Aw.skip ?_ | refine Aw.exit ?_ | refine Aw.condT rfl ?_ | refine Aw.condF rfl ?_)
            refine Aw.ret ?_
            refine ⟨_, [], rfl, trivial, ?_⟩
            exact scb (by rw [mailWithinB]; simp only [show (mailBaseB b) = true by simpa using hb10, show (partsOk a) = true from hb17, show (partsOk b) = false from hb19, show (alikeB (partD a) b) = false from hb26, show (bt b 0 == 46) = false from hb30, if_true, if_false, Bool.false_eq_true, Bool.true_and, Bool.false_and, Bool.true_or, Bool.false_or, Bool.or_true, Bool.and_true, Bool.or_false, Bool.and_false, Bool.not_true, Bool.not_false] <;> first | done | rfl | (simp; done))
    · skip
      repeat (first | refine AwOps.nil ?_ | refine AwSch.nil ?_ | refine Aw.seq ?_ | refine Aw.region ?_ | refine Aw.block ?_ | refine Aw.skip ?_ | refine Aw.exit ?_ | refine Aw.condT rfl ?_ | refine Aw.condF rfl ?_)
      refine AwOps.v hT rfl ?_
      refine AwOps.cl (F138 _ (by first | omega | (simp only [ByteArray.size_extract, ByteArray.size_append, loI, hiI]; omega))) [] rfl ⟨⟨rfl, rfl⟩, trivial⟩ trivial rfl ?_   -- certpathref07.MailBase
      rintro _ _ rfl
      refine AwOps.v hT rfl ?_
      refine AwOps.split (t := 38) rfl (fun hb38 => ?_) (fun hb38 => ?_)
      · skip
        refine AwOps.v hT rfl ?_
        refine AwOps.cl (F140 _ (by first | omega | (simp only [ByteArray.size_extract, ByteArray.size_append, loI, hiI]; omega))) [] rfl ⟨⟨rfl, rfl⟩, trivial⟩ trivial rfl ?_   -- certpathref07.Mail
        rintro _ _ rfl
        iterate 3 refine AwOps.v hT rfl ?_
        refine AwOps.split (t := 43) rfl (fun hb43 => ?_) (fun hb43 => ?_)
        · skip
          refine AwOps.v hT rfl ?_
          refine AwOps.v hT rfl ?_
          refine AwOps.cl (F142 _ _ (by have := partL_size a; have := partL_size b; have := partD_size a; have := partD_size b; omega) (by have := partL_size a; have := partL_size b; have := partD_size a; have := partD_size b; omega)) [] rfl ⟨⟨rfl, rfl⟩, ⟨rfl, rfl⟩, trivial⟩ trivial rfl ?_   -- certpathref07.alike
          rintro _ _ rfl
          refine AwOps.v hT rfl ?_
          refine AwOps.split (t := 47) rfl (fun hb47 => ?_) (fun hb47 => ?_)
          · skip
            iterate 11 refine AwOps.v hT rfl ?_
            repeat (first | refine AwOps.nil ?_ | refine AwSch.nil ?_ | refine Aw.seq ?_ | refine Aw.region ?_ | refine Aw.block ?_ | refine Aw.skip ?_ | refine Aw.exit ?_ | refine Aw.condT rfl ?_ | refine Aw.condF rfl ?_)
            refine Aw.ret ?_
            refine ⟨_, [], rfl, trivial, ?_⟩
            exact scb (by rw [mailWithinB]; simp only [show (mailBaseB b) = true by simpa using hb10, show (partsOk a) = false from hb17, show (mailBaseB a) = true from hb38, show (!partsOk b) = true from hb43, show (alikeB a b) = true from hb47, if_true, if_false, Bool.false_eq_true, Bool.true_and, Bool.false_and, Bool.true_or, Bool.false_or, Bool.or_true, Bool.and_true, Bool.or_false, Bool.and_false, Bool.not_true, Bool.not_false] <;> first | done | rfl | (simp; done))
          · skip
            refine AwOps.v hT rfl ?_
            refine AwOps.byte hT rfl (by omega) (by omega) ?_
            refine AwOps.v hT rfl ?_
            refine AwOps.v hT rfl ?_
            refine AwOps.split (t := 51) rfl (fun hb51 => ?_) (fun hb51 => ?_)
            · skip
              refine AwOps.v hT rfl ?_
              refine AwOps.v hT rfl ?_
              refine AwOps.cl (F143 _ _ (by have := partL_size a; have := partL_size b; have := partD_size a; have := partD_size b; omega) (by have := partL_size a; have := partL_size b; have := partD_size a; have := partD_size b; omega)) [] rfl ⟨⟨rfl, rfl⟩, ⟨rfl, rfl⟩, trivial⟩ trivial rfl ?_   -- certpathref07.ends
              rintro _ _ rfl
              iterate 4 refine AwOps.v hT rfl ?_
              repeat (first | refine AwOps.nil ?_ | refine AwSch.nil ?_ | refine Aw.seq ?_ | refine Aw.region ?_ | refine Aw.block ?_ | refine Aw.skip ?_ | refine Aw.exit ?_ | refine Aw.condT rfl ?_ | refine Aw.condF rfl ?_)
              refine Aw.ret ?_
              refine ⟨_, [], rfl, trivial, ?_⟩
              exact scb (by rw [mailWithinB]; simp only [show (mailBaseB b) = true by simpa using hb10, show (partsOk a) = false from hb17, show (mailBaseB a) = true from hb38, show (!partsOk b) = true from hb43, show (alikeB a b) = false from hb47, show (bt b 0 == 46) = true from hb51, if_true, if_false, Bool.false_eq_true, Bool.true_and, Bool.false_and, Bool.true_or, Bool.false_or, Bool.or_true, Bool.and_true, Bool.or_false, Bool.and_false, Bool.not_true, Bool.not_false] <;> first | done | rfl | (simp; done))
            · skip
              iterate 7 refine AwOps.v hT rfl ?_
              repeat (first | refine AwOps.nil ?_ | refine AwSch.nil ?_ | refine Aw.seq ?_ | refine Aw.region ?_ | refine Aw.block ?_ | refine Aw.skip ?_ | refine Aw.exit ?_ | refine Aw.condT rfl ?_ | refine Aw.condF rfl ?_)
              refine Aw.ret ?_
              refine ⟨_, [], rfl, trivial, ?_⟩
              exact scb (by rw [mailWithinB]; simp only [show (mailBaseB b) = true by simpa using hb10, show (partsOk a) = false from hb17, show (mailBaseB a) = true from hb38, show (!partsOk b) = true from hb43, show (alikeB a b) = false from hb47, show (bt b 0 == 46) = false from hb51, if_true, if_false, Bool.false_eq_true, Bool.true_and, Bool.false_and, Bool.true_or, Bool.false_or, Bool.or_true, Bool.and_true, Bool.or_false, Bool.and_false, Bool.not_true, Bool.not_false] <;> first | done | rfl | (simp; done))
        · skip
          iterate 15 refine AwOps.v hT rfl ?_
          repeat (first | refine AwOps.nil ?_ | refine AwSch.nil ?_ | refine Aw.seq ?_ | refine Aw.region ?_ | refine Aw.block ?_ | refine Aw.skip ?_ | refine Aw.exit ?_ | refine Aw.condT rfl ?_ | refine Aw.condF rfl ?_)
          refine Aw.ret ?_
          refine ⟨_, [], rfl, trivial, ?_⟩
          exact scb (by rw [mailWithinB]; simp only [show (mailBaseB b) = true by simpa using hb10, show (partsOk a) = false from hb17, show (mailBaseB a) = true from hb38, show (!partsOk b) = false from hb43, if_true, if_false, Bool.false_eq_true, Bool.true_and, Bool.false_and, Bool.true_or, Bool.false_or, Bool.or_true, Bool.and_true, Bool.or_false, Bool.and_false, Bool.not_true, Bool.not_false] <;> first | done | rfl | (simp; done))
      · skip
        iterate 20 refine AwOps.v hT rfl ?_
        repeat (first | refine AwOps.nil ?_ | refine AwSch.nil ?_ | refine Aw.seq ?_ | refine Aw.region ?_ | refine Aw.block ?_ | refine Aw.skip ?_ | refine Aw.exit ?_ | refine Aw.condT rfl ?_ | refine Aw.condF rfl ?_)
        refine Aw.ret ?_
        refine ⟨_, [], rfl, trivial, ?_⟩
        exact scb (by rw [mailWithinB]; simp only [show (mailBaseB b) = true by simpa using hb10, show (partsOk a) = false from hb17, show (mailBaseB a) = false from hb38, if_true, if_false, Bool.false_eq_true, Bool.true_and, Bool.false_and, Bool.true_or, Bool.false_or, Bool.or_true, Bool.and_true, Bool.or_false, Bool.and_false, Bool.not_true, Bool.not_false] <;> first | done | rfl | (simp; done))
def bitI (s : ByteArray) (i j : Int) : Bool := ((bt s i.toNat).fdiv (2 ^ (min (7 - j % 8).toNat IntKind.u8.bits))).tmod 2 == 1
def oneR (s : ByteArray) (j : Nat) : Bool := bitI s ((s.size : Int) / 2 + (j : Int) / 8) j
def netR (s : ByteArray) (j : Nat) : Bool := bitI s ((j : Int) / 8) j
def zerosR (s : ByteArray) (n : Nat) : Bool := (List.range n).any fun j => !oneR s j
theorem zerosR_next (s : ByteArray) (n : Nat) : zerosR s (n + 1) = (zerosR s n || !oneR s n) := by rw [zerosR, zerosR, List.range_succ, List.any_append]; simp
def badR (s : ByteArray) (j : Nat) : Bool := (oneR s j && zerosR s j) || (!oneR s j && netR s j)
def rangeB (s : ByteArray) : Bool := !((s.size : Int) != 8 && (s.size : Int) != 32) && (List.range (8 * (s.size / 2))).all fun j => !badR s j
-- f146 certpath/certpathref07.Range
theorem F146 (s : ByteArray) (hs : s.size ≤ 1099511627776) : Fn Tryz.prog 85 [.pv (sc (.string s))] [] (fun r _ => r = sc (.bool (rangeB s))) := by
  refine Fn.intro (rs := [.tmp 2]) hT Tryz.func85 (by kernel_rfl) rfl rfl rfl rfl fun C => ?_
  repeat (first | refine AwOps.nil ?_ | refine AwSch.nil ?_ | refine Aw.seq ?_ | refine Aw.region ?_ | refine Aw.block ?_ | refine Aw.skip ?_ | refine Aw.exit ?_ | refine Aw.condT rfl ?_ | refine Aw.condF rfl ?_)
  refine AwOps.v hT rfl ?_
  repeat (first | refine AwOps.nil ?_ | refine AwSch.nil ?_ | refine Aw.seq ?_ | refine Aw.region ?_ | refine Aw.block ?_ | refine Aw.skip ?_ | refine Aw.exit ?_ | refine Aw.condT rfl ?_ | refine Aw.condF rfl ?_)
  iterate 4 refine AwOps.v hT rfl ?_
  refine AwOps.split (t := 10) rfl (fun hb10 => ?_) (fun hb10 => ?_)
  · skip
    iterate 4 refine AwOps.v hT rfl ?_
    repeat (first | refine AwOps.nil ?_ | refine AwSch.nil ?_ | refine Aw.seq ?_ | refine Aw.region ?_ | refine Aw.block ?_ | refine Aw.skip ?_ | refine Aw.exit ?_ | refine Aw.condT rfl ?_ | refine Aw.condF rfl ?_)
    refine Aw.tst rfl (fun hb14 => ?_) (fun hb14 => ?_)
    · skip
      repeat (first | refine AwOps.nil ?_ | refine AwSch.nil ?_ | refine Aw.seq ?_ | refine Aw.region ?_ | refine Aw.block ?_ | refine Aw.skip ?_ | refine Aw.exit ?_ | refine Aw.condT rfl ?_ | refine Aw.condF rfl ?_)
      refine AwOps.v hT rfl ?_
      repeat (first | refine AwOps.nil ?_ | refine AwSch.nil ?_ | refine Aw.seq ?_ | refine Aw.region ?_ | refine Aw.block ?_ | refine Aw.skip ?_ | refine Aw.exit ?_ | refine Aw.condT rfl ?_ | refine Aw.condF rfl ?_)
      refine Aw.ret ?_
      refine ⟨_, [], rfl, trivial, ?_⟩
      exact scb (by rw [rangeB]; simp only [show ((s.size : Int) != 8) = true from hb10, show ((s.size : Int) != 32) = true from hb14, Bool.true_and, Bool.false_and, Bool.true_or, Bool.false_or, Bool.or_true, Bool.and_true, Bool.or_false, Bool.and_false, Bool.not_true, Bool.not_false] <;> first | done | rfl | (simp; done))
    · skip
      have hz : s.size = 8 ∨ s.size = 32 := by
        have h' := hb14
        simp at h'
        omega
      repeat (first | refine AwOps.nil ?_ | refine AwSch.nil ?_ | refine Aw.seq ?_ | refine Aw.region ?_ | refine Aw.block ?_ | refine Aw.skip ?_ | refine Aw.exit ?_ | refine Aw.condT rfl ?_ | refine Aw.condF rfl ?_)
      iterate 3 refine AwOps.v hT rfl ?_
      first | refine AwOps.nmq 17 rfl (by omega) (by omega) (by omega) ?_ | skip
      refine AwOps.v hT rfl ?_
      repeat (first | refine AwOps.nil ?_ | refine AwSch.nil ?_ | refine Aw.seq ?_ | refine Aw.region ?_ | refine Aw.block ?_ | refine Aw.skip ?_ | refine Aw.exit ?_ | refine Aw.condT rfl ?_ | refine Aw.condF rfl ?_)
      refine AwOps.v hT rfl ?_
      repeat (first | refine AwOps.nil ?_ | refine AwSch.nil ?_ | refine Aw.seq ?_ | refine Aw.region ?_ | refine Aw.block ?_ | refine Aw.skip ?_ | refine Aw.exit ?_ | refine Aw.condT rfl ?_ | refine Aw.condF rfl ?_)
      refine AwOps.v hT rfl ?_
      repeat (first | refine AwOps.nil ?_ | refine AwSch.nil ?_ | refine Aw.seq ?_ | refine Aw.region ?_ | refine Aw.block ?_ | refine Aw.skip ?_ | refine Aw.exit ?_ | refine Aw.condT rfl ?_ | refine Aw.condF rfl ?_)
      have hB1 : 8 * (s.size / 2) ≤ maxLen := by unfold maxLen; omega
      repeat (first | refine AwOps.nil ?_ | refine AwSch.nil ?_ | refine Aw.seq ?_ | refine Aw.region ?_ | refine Aw.block ?_ | refine Aw.skip ?_ | refine Aw.exit ?_ | refine Aw.condT rfl ?_ | refine Aw.condF rfl ?_)
      refine Aw.lp (ι := Bool × Nat) (n := 61) [(0, _), (3, _)] [] (fun gq => [(4, sc (.bool gq.1)), (5, sc (.int .i64 gq.2))]) (fun gq => []) (fun gq => gq.2 ≤ 8 * (s.size / 2) ∧ ((List.range gq.2).all (fun j => !badR s j) = true ∧ gq.1 = zerosR s gq.2)) (fun gq => 8 * (s.size / 2) - gq.2) (_, 0) ?ok1 (Less.tn ⟨rfl, ⟨rfl, rfl, rfl, rfl, trivial⟩, trivial⟩) ?bd1
      case ok1 =>
        try dsimp only
        exact ⟨Nat.zero_le _, rfl, rfl⟩
      case bd1 =>
        rintro ⟨b4, i1⟩ hi1
        try dsimp only at hi1
        show Aw _ _ _ ⟨61, [(4, sc (.bool b4)), (5, sc (.int .i64 i1))] ++ [(0, _), (3, _)], [] ++ []⟩ _
        repeat (first | refine AwOps.nil ?_ | refine AwSch.nil ?_ | refine Aw.seq ?_ | refine Aw.region ?_ | refine Aw.block ?_ | refine Aw.skip ?_ | refine Aw.exit ?_ | refine Aw.condT rfl ?_ | refine Aw.condF rfl ?_)
        iterate 3 refine AwOps.v hT rfl ?_
        first | refine AwOps.nm 20 rfl (by omega) (by omega) ?_ | skip
        refine AwOps.v hT rfl ?_
        repeat (first | refine AwOps.nil ?_ | refine AwSch.nil ?_ | refine Aw.seq ?_ | refine Aw.region ?_ | refine Aw.block ?_ | refine Aw.skip ?_ | refine Aw.exit ?_ | refine Aw.condT rfl ?_ | refine Aw.condF rfl ?_)
        refine Aw.tst rfl (fun hb21 => ?_) (fun hb21 => ?_)
        · skip
          have hlt1 : i1 < 8 * (s.size / 2) := by first | simpa using hb21 | (have h' := hb21; simp at h'; omega)
          repeat (first | refine AwOps.nil ?_ | refine AwSch.nil ?_ | refine Aw.seq ?_ | refine Aw.region ?_ | refine Aw.block ?_ | refine Aw.skip ?_ | refine Aw.exit ?_ | refine Aw.condT rfl ?_ | refine Aw.condF rfl ?_)
          iterate 4 refine AwOps.v hT rfl ?_
          first | refine AwOps.nmq 27 rfl (by omega) (by omega) (by omega) ?_ | skip
          refine AwOps.v hT rfl ?_
          first | refine AwOps.nm 28 rfl (by omega) (by omega) ?_ | skip
          refine AwOps.byte hT rfl (by omega) (by omega) ?_
          refine AwOps.v hT rfl ?_
          refine AwOps.v hT rfl ?_
          first | refine AwOps.nmr 31 rfl (by omega) ?_ | skip
          refine AwOps.v hT rfl ?_
          first | refine AwOps.nm 32 rfl (by omega) (by omega) ?_ | skip
          refine AwOps.bin rfl _ rfl (shr_run (by omega)) ?_
          refine AwOps.v hT rfl ?_
          refine AwOps.v hT rfl ?_
          refine AwOps.turn (Less.say (t := 35) (B := sc (.bool (oneR s i1))) rfl rfl) ?_
          refine AwOps.v hT rfl ?_
          repeat (first | refine AwOps.nil ?_ | refine AwSch.nil ?_ | refine Aw.seq ?_ | refine Aw.region ?_ | refine Aw.block ?_ | refine Aw.skip ?_ | refine Aw.exit ?_ | refine Aw.condT rfl ?_ | refine Aw.condF rfl ?_)
          refine AwOps.v hT rfl ?_
          refine AwOps.v hT rfl ?_
          refine AwOps.split (t := 37) rfl (fun hb37 => ?_) (fun hb37 => ?_)
          · skip
            iterate 3 refine AwOps.v hT rfl ?_
            refine AwOps.split (t := 40) rfl (fun hb40 => ?_) (fun hb40 => ?_)
            · skip
              refine AwOps.turn (Less.say (t := 4) (B := sc (.bool true)) rfl (by rw [show (b4) = true by simpa using hb40])) ?_
              iterate 13 refine AwOps.v hT rfl ?_
              first | refine AwOps.turn (Less.say (t := 53) (B := sc (.bool (netR s i1))) rfl rfl) ?_ | skip
              refine AwOps.v hT rfl ?_
              refine AwOps.v hT rfl ?_
              repeat (first | refine AwOps.nil ?_ | refine AwSch.nil ?_ | refine Aw.seq ?_ | refine Aw.region ?_ | refine Aw.block ?_ | refine Aw.skip ?_ | refine Aw.exit ?_ | refine Aw.condT rfl ?_ | refine Aw.condF rfl ?_)
              refine AwOps.v hT rfl ?_
              repeat (first | refine AwOps.nil ?_ | refine AwSch.nil ?_ | refine Aw.seq ?_ | refine Aw.region ?_ | refine Aw.block ?_ | refine Aw.skip ?_ | refine Aw.exit ?_ | refine Aw.condT rfl ?_ | refine Aw.condF rfl ?_)
              refine Aw.ret ?_
              refine ⟨_, [], rfl, trivial, ?_⟩
              exact scb (by rw [rangeB, all_miss hlt1 (by rw [badR, ← hi1.2.2]; simp only [show (oneR s i1) = true from hb37, show (b4) = true from hb40, Bool.not_true, Bool.true_and, Bool.false_and, Bool.true_or, Bool.false_or, Bool.or_true, Bool.and_true, Bool.or_false, Bool.and_false, Bool.not_true, Bool.not_false])]; simp)
            · skip
              refine AwOps.turn (Less.say (t := 4) (B := sc (.bool false)) rfl (by rw [show (b4) = false by simpa using hb40])) ?_
              iterate 3 refine AwOps.v hT rfl ?_
              refine AwOps.turn (Less.say (t := 43) (B := sc (.bool false)) rfl (by rw [show (!oneR s i1) = false by simpa using hb37])) ?_
              iterate 10 refine AwOps.v hT rfl ?_
              first | refine AwOps.turn (Less.say (t := 53) (B := sc (.bool (netR s i1))) rfl rfl) ?_ | skip
              refine AwOps.v hT rfl ?_
              refine AwOps.v hT rfl ?_
              repeat (first | refine AwOps.nil ?_ | refine AwSch.nil ?_ | refine Aw.seq ?_ | refine Aw.region ?_ | refine Aw.block ?_ | refine Aw.skip ?_ | refine Aw.exit ?_ | refine Aw.condT rfl ?_ | refine Aw.condF rfl ?_)
              iterate 6 refine AwOps.v hT rfl ?_
              repeat (first | refine AwOps.nil ?_ | refine AwSch.nil ?_ | refine Aw.seq ?_ | refine Aw.region ?_ | refine Aw.block ?_ | refine Aw.skip ?_ | refine Aw.exit ?_ | refine Aw.condT rfl ?_ | refine Aw.condF rfl ?_)
              iterate 3 refine AwOps.v hT rfl ?_
              repeat (first | refine AwOps.nil ?_ | refine AwSch.nil ?_ | refine Aw.seq ?_ | refine Aw.region ?_ | refine Aw.block ?_ | refine Aw.skip ?_ | refine Aw.exit ?_ | refine Aw.condT rfl ?_ | refine Aw.condF rfl ?_)
              refine ⟨(_, i1 + 1), ?nx1, ?mu1, Less.tn ⟨rfl, ⟨rfl, incS hlt1 hB1, rfl, rfl, trivial⟩, trivial⟩⟩
              case nx1 =>
                try dsimp only
                exact ⟨hlt1, all_next hi1.2.1 (by rw [badR, ← hi1.2.2]; simp only [show (oneR s i1) = true from hb37, show (b4) = false from hb40, Bool.not_true, Bool.true_and, Bool.false_and, Bool.true_or, Bool.false_or, Bool.or_true, Bool.and_true, Bool.or_false, Bool.and_false, Bool.not_true, Bool.not_false]), by rw [zerosR_next, ← hi1.2.2]; simp only [show (oneR s i1) = true from hb37, show (b4) = false from hb40, Bool.true_and, Bool.false_and, Bool.true_or, Bool.false_or, Bool.or_true, Bool.and_true, Bool.or_false, Bool.and_false, Bool.not_true, Bool.not_false]⟩
              case mu1 =>
                try dsimp only
                first | omega | (simp only [w64] at *; omega) | (simp [w64] at *; omega)
          · skip
            iterate 6 refine AwOps.v hT rfl ?_
            refine AwOps.turn (Less.say (t := 43) (B := sc (.bool true)) rfl (by rw [show (!oneR s i1) = true by simpa using hb37])) ?_
            iterate 3 refine AwOps.v hT rfl ?_
            first | refine AwOps.nmq 46 rfl (by omega) (by omega) (by omega) ?_ | skip
            refine AwOps.byte hT rfl (by omega) (by omega) ?_
            refine AwOps.v hT rfl ?_
            refine AwOps.v hT rfl ?_
            first | refine AwOps.nmr 49 rfl (by omega) ?_ | skip
            refine AwOps.v hT rfl ?_
            first | refine AwOps.nm 50 rfl (by omega) (by omega) ?_ | skip
            refine AwOps.bin rfl _ rfl (shr_run (by omega)) ?_
            refine AwOps.v hT rfl ?_
            refine AwOps.v hT rfl ?_
            first | refine AwOps.turn (Less.say (t := 53) (B := sc (.bool (netR s i1))) rfl rfl) ?_ | skip
            refine AwOps.v hT rfl ?_
            refine AwOps.v hT rfl ?_
            repeat (first | refine AwOps.nil ?_ | refine AwSch.nil ?_ | refine Aw.seq ?_ | refine Aw.region ?_ | refine Aw.block ?_ | refine Aw.skip ?_ | refine Aw.exit ?_ | refine Aw.condT rfl ?_ | refine Aw.condF rfl ?_)
            refine Aw.tst rfl (fun hb55 => ?_) (fun hb55 => ?_)
            · skip
              repeat (first | refine AwOps.nil ?_ | refine AwSch.nil ?_ | refine Aw.seq ?_ | refine Aw.region ?_ | refine Aw.block ?_ | refine Aw.skip ?_ | refine Aw.exit ?_ | refine Aw.condT rfl ?_ | refine Aw.condF rfl ?_)
              refine AwOps.v hT rfl ?_
              repeat (first | refine AwOps.nil ?_ | refine AwSch.nil ?_ | refine Aw.seq ?_ | refine Aw.region ?_ | refine Aw.block ?_ | refine Aw.skip ?_ | refine Aw.exit ?_ | refine Aw.condT rfl ?_ | refine Aw.condF rfl ?_)
              refine Aw.ret ?_
              refine ⟨_, [], rfl, trivial, ?_⟩
              exact scb (by rw [rangeB, all_miss hlt1 (by rw [badR, ← hi1.2.2]; simp only [show (oneR s i1) = false from hb37, show (netR s i1) = true from hb55, Bool.not_true, Bool.true_and, Bool.false_and, Bool.true_or, Bool.false_or, Bool.or_true, Bool.and_true, Bool.or_false, Bool.and_false, Bool.not_true, Bool.not_false])]; simp)
            · skip
              repeat (first | refine AwOps.nil ?_ | refine AwSch.nil ?_ | refine Aw.seq ?_ | refine Aw.region ?_ | refine Aw.block ?_ | refine Aw.skip ?_ | refine Aw.exit ?_ | refine Aw.condT rfl ?_ | refine Aw.condF rfl ?_)
              refine AwOps.v hT rfl ?_
              refine AwOps.v hT rfl ?_
              refine AwOps.split (t := 57) rfl (fun hb57 => ?_) (fun hb57 => ?_)
              · skip
                iterate 4 refine AwOps.v hT rfl ?_
                repeat (first | refine AwOps.nil ?_ | refine AwSch.nil ?_ | refine Aw.seq ?_ | refine Aw.region ?_ | refine Aw.block ?_ | refine Aw.skip ?_ | refine Aw.exit ?_ | refine Aw.condT rfl ?_ | refine Aw.condF rfl ?_)
                iterate 3 refine AwOps.v hT rfl ?_
                repeat (first | refine AwOps.nil ?_ | refine AwSch.nil ?_ | refine Aw.seq ?_ | refine Aw.region ?_ | refine Aw.block ?_ | refine Aw.skip ?_ | refine Aw.exit ?_ | refine Aw.condT rfl ?_ | refine Aw.condF rfl ?_)
                refine ⟨(_, i1 + 1), ?nx1, ?mu1, Less.tn ⟨rfl, ⟨rfl, incS hlt1 hB1, rfl, rfl, trivial⟩, trivial⟩⟩
                case nx1 =>
                  try dsimp only
                  exact ⟨hlt1, all_next hi1.2.1 (by rw [badR, ← hi1.2.2]; simp only [show (oneR s i1) = false from hb37, show (netR s i1) = false from hb55, show (b4) = true from hb57, Bool.not_true, Bool.true_and, Bool.false_and, Bool.true_or, Bool.false_or, Bool.or_true, Bool.and_true, Bool.or_false, Bool.and_false, Bool.not_true, Bool.not_false]), by rw [zerosR_next, ← hi1.2.2]; simp only [show (oneR s i1) = false from hb37, show (netR s i1) = false from hb55, show (b4) = true from hb57, Bool.true_and, Bool.false_and, Bool.true_or, Bool.false_or, Bool.or_true, Bool.and_true, Bool.or_false, Bool.and_false, Bool.not_true, Bool.not_false]⟩
                case mu1 =>
                  try dsimp only
                  first | omega | (simp only [w64] at *; omega) | (simp [w64] at *; omega)
              · skip
                iterate 4 refine AwOps.v hT rfl ?_
                repeat (first | refine AwOps.nil ?_ | refine AwSch.nil ?_ | refine Aw.seq ?_ | refine Aw.region ?_ | refine Aw.block ?_ | refine Aw.skip ?_ | refine Aw.exit ?_ | refine Aw.condT rfl ?_ | refine Aw.condF rfl ?_)
                iterate 3 refine AwOps.v hT rfl ?_
                repeat (first | refine AwOps.nil ?_ | refine AwSch.nil ?_ | refine Aw.seq ?_ | refine Aw.region ?_ | refine Aw.block ?_ | refine Aw.skip ?_ | refine Aw.exit ?_ | refine Aw.condT rfl ?_ | refine Aw.condF rfl ?_)
                refine ⟨(_, i1 + 1), ?nx1, ?mu1, Less.tn ⟨rfl, ⟨rfl, incS hlt1 hB1, rfl, rfl, trivial⟩, trivial⟩⟩
                case nx1 =>
                  try dsimp only
                  exact ⟨hlt1, all_next hi1.2.1 (by rw [badR, ← hi1.2.2]; simp only [show (oneR s i1) = false from hb37, show (netR s i1) = false from hb55, show (b4) = false from hb57, Bool.not_true, Bool.true_and, Bool.false_and, Bool.true_or, Bool.false_or, Bool.or_true, Bool.and_true, Bool.or_false, Bool.and_false, Bool.not_true, Bool.not_false]), by rw [zerosR_next, ← hi1.2.2]; simp only [show (oneR s i1) = false from hb37, show (netR s i1) = false from hb55, show (b4) = false from hb57, Bool.true_and, Bool.false_and, Bool.true_or, Bool.false_or, Bool.or_true, Bool.and_true, Bool.or_false, Bool.and_false, Bool.not_true, Bool.not_false]⟩
                case mu1 =>
                  try dsimp only
                  first | omega | (simp only [w64] at *; omega) | (simp [w64] at *; omega)
        · skip
          repeat (first | refine AwOps.nil ?_ | refine AwSch.nil ?_ | refine Aw.seq ?_ | refine Aw.region ?_ | refine Aw.block ?_ | refine Aw.skip ?_ | refine Aw.exit ?_ | refine Aw.condT rfl ?_ | refine Aw.condF rfl ?_)
          refine AwOps.v hT rfl ?_
          repeat (first | refine AwOps.nil ?_ | refine AwSch.nil ?_ | refine Aw.seq ?_ | refine Aw.region ?_ | refine Aw.block ?_ | refine Aw.skip ?_ | refine Aw.exit ?_ | refine Aw.condT rfl ?_ | refine Aw.condF rfl ?_)
          refine Aw.ret ?_
          refine ⟨_, [], rfl, trivial, ?_⟩
          exact scb (by rw [rangeB, rall_full hi1.2.1 (by have := of_decide_eq_false hb21; simp; omega) hi1.1]; simp only [show ((s.size : Int) != 8) = true from hb10, show ((s.size : Int) != 32) = false from hb14, Bool.true_and, Bool.false_and, Bool.true_or, Bool.false_or, Bool.or_true, Bool.and_true, Bool.or_false, Bool.and_false, Bool.not_true, Bool.not_false] <;> first | done | rfl | (simp; done))
  · skip
    have hz : s.size = 8 ∨ s.size = 32 := by
      have h' := hb10
      simp at h'
      omega
    iterate 4 refine AwOps.v hT rfl ?_
    repeat (first | refine AwOps.nil ?_ | refine AwSch.nil ?_ | refine Aw.seq ?_ | refine Aw.region ?_ | refine Aw.block ?_ | refine Aw.skip ?_ | refine Aw.exit ?_ | refine Aw.condT rfl ?_ | refine Aw.condF rfl ?_)
    iterate 3 refine AwOps.v hT rfl ?_
    first | refine AwOps.nmq 17 rfl (by omega) (by omega) (by omega) ?_ | skip
    refine AwOps.v hT rfl ?_
    repeat (first | refine AwOps.nil ?_ | refine AwSch.nil ?_ | refine Aw.seq ?_ | refine Aw.region ?_ | refine Aw.block ?_ | refine Aw.skip ?_ | refine Aw.exit ?_ | refine Aw.condT rfl ?_ | refine Aw.condF rfl ?_)
    refine AwOps.v hT rfl ?_
    repeat (first | refine AwOps.nil ?_ | refine AwSch.nil ?_ | refine Aw.seq ?_ | refine Aw.region ?_ | refine Aw.block ?_ | refine Aw.skip ?_ | refine Aw.exit ?_ | refine Aw.condT rfl ?_ | refine Aw.condF rfl ?_)
    refine AwOps.v hT rfl ?_
    repeat (first | refine AwOps.nil ?_ | refine AwSch.nil ?_ | refine Aw.seq ?_ | refine Aw.region ?_ | refine Aw.block ?_ | refine Aw.skip ?_ | refine Aw.exit ?_ | refine Aw.condT rfl ?_ | refine Aw.condF rfl ?_)
    have hB1 : 8 * (s.size / 2) ≤ maxLen := by unfold maxLen; omega
    repeat (first | refine AwOps.nil ?_ | refine AwSch.nil ?_ | refine Aw.seq ?_ | refine Aw.region ?_ | refine Aw.block ?_ | refine Aw.skip ?_ | refine Aw.exit ?_ | refine Aw.condT rfl ?_ | refine Aw.condF rfl ?_)
    refine Aw.lp (ι := Bool × Nat) (n := 61) [(0, _), (3, _)] [] (fun gq => [(4, sc (.bool gq.1)), (5, sc (.int .i64 gq.2))]) (fun gq => []) (fun gq => gq.2 ≤ 8 * (s.size / 2) ∧ ((List.range gq.2).all (fun j => !badR s j) = true ∧ gq.1 = zerosR s gq.2)) (fun gq => 8 * (s.size / 2) - gq.2) (_, 0) ?ok1 (Less.tn ⟨rfl, ⟨rfl, rfl, rfl, rfl, trivial⟩, trivial⟩) ?bd1
    case ok1 =>
      try dsimp only
      exact ⟨Nat.zero_le _, rfl, rfl⟩
    case bd1 =>
      rintro ⟨b4, i1⟩ hi1
      try dsimp only at hi1
      show Aw _ _ _ ⟨61, [(4, sc (.bool b4)), (5, sc (.int .i64 i1))] ++ [(0, _), (3, _)], [] ++ []⟩ _
      repeat (first | refine AwOps.nil ?_ | refine AwSch.nil ?_ | refine Aw.seq ?_ | refine Aw.region ?_ | refine Aw.block ?_ | refine Aw.skip ?_ | refine Aw.exit ?_ | refine Aw.condT rfl ?_ | refine Aw.condF rfl ?_)
      iterate 3 refine AwOps.v hT rfl ?_
      first | refine AwOps.nm 20 rfl (by omega) (by omega) ?_ | skip
      refine AwOps.v hT rfl ?_
      repeat (first | refine AwOps.nil ?_ | refine AwSch.nil ?_ | refine Aw.seq ?_ | refine Aw.region ?_ | refine Aw.block ?_ | refine Aw.skip ?_ | refine Aw.exit ?_ | refine Aw.condT rfl ?_ | refine Aw.condF rfl ?_)
      refine Aw.tst rfl (fun hb21 => ?_) (fun hb21 => ?_)
      · skip
        have hlt1 : i1 < 8 * (s.size / 2) := by first | simpa using hb21 | (have h' := hb21; simp at h'; omega)
        repeat (first | refine AwOps.nil ?_ | refine AwSch.nil ?_ | refine Aw.seq ?_ | refine Aw.region ?_ | refine Aw.block ?_ | refine Aw.skip ?_ | refine Aw.exit ?_ | refine Aw.condT rfl ?_ | refine Aw.condF rfl ?_)
        iterate 4 refine AwOps.v hT rfl ?_
        first | refine AwOps.nmq 27 rfl (by omega) (by omega) (by omega) ?_ | skip
        refine AwOps.v hT rfl ?_
        first | refine AwOps.nm 28 rfl (by omega) (by omega) ?_ | skip
        refine AwOps.byte hT rfl (by omega) (by omega) ?_
        refine AwOps.v hT rfl ?_
        refine AwOps.v hT rfl ?_
        first | refine AwOps.nmr 31 rfl (by omega) ?_ | skip
        refine AwOps.v hT rfl ?_
        first | refine AwOps.nm 32 rfl (by omega) (by omega) ?_ | skip
        refine AwOps.bin rfl _ rfl (shr_run (by omega)) ?_
        refine AwOps.v hT rfl ?_
        refine AwOps.v hT rfl ?_
        refine AwOps.turn (Less.say (t := 35) (B := sc (.bool (oneR s i1))) rfl rfl) ?_
        refine AwOps.v hT rfl ?_
        repeat (first | refine AwOps.nil ?_ | refine AwSch.nil ?_ | refine Aw.seq ?_ | refine Aw.region ?_ | refine Aw.block ?_ | refine Aw.skip ?_ | refine Aw.exit ?_ | refine Aw.condT rfl ?_ | refine Aw.condF rfl ?_)
        refine AwOps.v hT rfl ?_
        refine AwOps.v hT rfl ?_
        refine AwOps.split (t := 37) rfl (fun hb37 => ?_) (fun hb37 => ?_)
        · skip
          iterate 3 refine AwOps.v hT rfl ?_
          refine AwOps.split (t := 40) rfl (fun hb40 => ?_) (fun hb40 => ?_)
          · skip
            refine AwOps.turn (Less.say (t := 4) (B := sc (.bool true)) rfl (by rw [show (b4) = true by simpa using hb40])) ?_
            iterate 13 refine AwOps.v hT rfl ?_
            first | refine AwOps.turn (Less.say (t := 53) (B := sc (.bool (netR s i1))) rfl rfl) ?_ | skip
            refine AwOps.v hT rfl ?_
            refine AwOps.v hT rfl ?_
            repeat (first | refine AwOps.nil ?_ | refine AwSch.nil ?_ | refine Aw.seq ?_ | refine Aw.region ?_ | refine Aw.block ?_ | refine Aw.skip ?_ | refine Aw.exit ?_ | refine Aw.condT rfl ?_ | refine Aw.condF rfl ?_)
            refine AwOps.v hT rfl ?_
            repeat (first | refine AwOps.nil ?_ | refine AwSch.nil ?_ | refine Aw.seq ?_ | refine Aw.region ?_ | refine Aw.block ?_ | refine Aw.skip ?_ | refine Aw.exit ?_ | refine Aw.condT rfl ?_ | refine Aw.condF rfl ?_)
            refine Aw.ret ?_
            refine ⟨_, [], rfl, trivial, ?_⟩
            exact scb (by rw [rangeB, all_miss hlt1 (by rw [badR, ← hi1.2.2]; simp only [show (oneR s i1) = true from hb37, show (b4) = true from hb40, Bool.not_true, Bool.true_and, Bool.false_and, Bool.true_or, Bool.false_or, Bool.or_true, Bool.and_true, Bool.or_false, Bool.and_false, Bool.not_true, Bool.not_false])]; simp)
          · skip
            refine AwOps.turn (Less.say (t := 4) (B := sc (.bool false)) rfl (by rw [show (b4) = false by simpa using hb40])) ?_
            iterate 3 refine AwOps.v hT rfl ?_
            refine AwOps.turn (Less.say (t := 43) (B := sc (.bool false)) rfl (by rw [show (!oneR s i1) = false by simpa using hb37])) ?_
            iterate 10 refine AwOps.v hT rfl ?_
            first | refine AwOps.turn (Less.say (t := 53) (B := sc (.bool (netR s i1))) rfl rfl) ?_ | skip
            refine AwOps.v hT rfl ?_
            refine AwOps.v hT rfl ?_
            repeat (first | refine AwOps.nil ?_ | refine AwSch.nil ?_ | refine Aw.seq ?_ | refine Aw.region ?_ | refine Aw.block ?_ | refine Aw.skip ?_ | refine Aw.exit ?_ | refine Aw.condT rfl ?_ | refine Aw.condF rfl ?_)
            iterate 6 refine AwOps.v hT rfl ?_
            repeat (first | refine AwOps.nil ?_ | refine AwSch.nil ?_ | refine Aw.seq ?_ | refine Aw.region ?_ | refine Aw.block ?_ | refine Aw.skip ?_ | refine Aw.exit ?_ | refine Aw.condT rfl ?_ | refine Aw.condF rfl ?_)
            iterate 3 refine AwOps.v hT rfl ?_
            repeat (first | refine AwOps.nil ?_ | refine AwSch.nil ?_ | refine Aw.seq ?_ | refine Aw.region ?_ | refine Aw.block ?_ | refine Aw.skip ?_ | refine Aw.exit ?_ | refine Aw.condT rfl ?_ | refine Aw.condF rfl ?_)
            refine ⟨(_, i1 + 1), ?nx1, ?mu1, Less.tn ⟨rfl, ⟨rfl, incS hlt1 hB1, rfl, rfl, trivial⟩, trivial⟩⟩
            case nx1 =>
              try dsimp only
              exact ⟨hlt1, all_next hi1.2.1 (by rw [badR, ← hi1.2.2]; simp only [show (oneR s i1) = true from hb37, show (b4) = false from hb40, Bool.not_true, Bool.true_and, Bool.false_and, Bool.true_or, Bool.false_or, Bool.or_true, Bool.and_true, Bool.or_false, Bool.and_false, Bool.not_true, Bool.not_false]), by rw [zerosR_next, ← hi1.2.2]; simp only [show (oneR s i1) = true from hb37, show (b4) = false from hb40, Bool.true_and, Bool.false_and, Bool.true_or, Bool.false_or, Bool.or_true, Bool.and_true, Bool.or_false, Bool.and_false, Bool.not_true, Bool.not_false]⟩
            case mu1 =>
              try dsimp only
              first | omega | (simp only [w64] at *; omega) | (simp [w64] at *; omega)
        · skip
          iterate 6 refine AwOps.v hT rfl ?_
          refine AwOps.turn (Less.say (t := 43) (B := sc (.bool true)) rfl (by rw [show (!oneR s i1) = true by simpa using hb37])) ?_
          iterate 3 refine AwOps.v hT rfl ?_
          first | refine AwOps.nmq 46 rfl (by omega) (by omega) (by omega) ?_ | skip
          refine AwOps.byte hT rfl (by omega) (by omega) ?_
          refine AwOps.v hT rfl ?_
          refine AwOps.v hT rfl ?_
          first | refine AwOps.nmr 49 rfl (by omega) ?_ | skip
          refine AwOps.v hT rfl ?_
          first | refine AwOps.nm 50 rfl (by omega) (by omega) ?_ | skip
          refine AwOps.bin rfl _ rfl (shr_run (by omega)) ?_
          refine AwOps.v hT rfl ?_
          refine AwOps.v hT rfl ?_
          first | refine AwOps.turn (Less.say (t := 53) (B := sc (.bool (netR s i1))) rfl rfl) ?_ | skip
          refine AwOps.v hT rfl ?_
          refine AwOps.v hT rfl ?_
          repeat (first | refine AwOps.nil ?_ | refine AwSch.nil ?_ | refine Aw.seq ?_ | refine Aw.region ?_ | refine Aw.block ?_ | refine Aw.skip ?_ | refine Aw.exit ?_ | refine Aw.condT rfl ?_ | refine Aw.condF rfl ?_)
          refine Aw.tst rfl (fun hb55 => ?_) (fun hb55 => ?_)
          · skip
            repeat (first | refine AwOps.nil ?_ | refine AwSch.nil ?_ | refine Aw.seq ?_ | refine Aw.region ?_ | refine Aw.block ?_ | refine Aw.skip ?_ | refine Aw.exit ?_ | refine Aw.condT rfl ?_ | refine Aw.condF rfl ?_)
            refine AwOps.v hT rfl ?_
            repeat (first | refine AwOps.nil ?_ | refine AwSch.nil ?_ | refine Aw.seq ?_ | refine Aw.region ?_ | refine Aw.block ?_ | refine Aw.skip ?_ | refine Aw.exit ?_ | refine Aw.condT rfl ?_ | refine Aw.condF rfl ?_)
            refine Aw.ret ?_
            refine ⟨_, [], rfl, trivial, ?_⟩
            exact scb (by rw [rangeB, all_miss hlt1 (by rw [badR, ← hi1.2.2]; simp only [show (oneR s i1) = false from hb37, show (netR s i1) = true from hb55, Bool.not_true, Bool.true_and, Bool.false_and, Bool.true_or, Bool.false_or, Bool.or_true, Bool.and_true, Bool.or_false, Bool.and_false, Bool.not_true, Bool.not_false])]; simp)
          · skip
            repeat (first | refine AwOps.nil ?_ | refine AwSch.nil ?_ | refine Aw.seq ?_ | refine Aw.region ?_ | refine Aw.block ?_ | refine Aw.skip ?_ | refine Aw.exit ?_ | refine Aw.condT rfl ?_ | refine Aw.condF rfl ?_)
            refine AwOps.v hT rfl ?_
            refine AwOps.v hT rfl ?_
            refine AwOps.split (t := 57) rfl (fun hb57 => ?_) (fun hb57 => ?_)
            · skip
              iterate 4 refine AwOps.v hT rfl ?_
              repeat (first | refine AwOps.nil ?_ | refine AwSch.nil ?_ | refine Aw.seq ?_ | refine Aw.region ?_ | refine Aw.block ?_ | refine Aw.skip ?_ | refine Aw.exit ?_ | refine Aw.condT rfl ?_ | refine Aw.condF rfl ?_)
              iterate 3 refine AwOps.v hT rfl ?_
              repeat (first | refine AwOps.nil ?_ | refine AwSch.nil ?_ | refine Aw.seq ?_ | refine Aw.region ?_ | refine Aw.block ?_ | refine Aw.skip ?_ | refine Aw.exit ?_ | refine Aw.condT rfl ?_ | refine Aw.condF rfl ?_)
              refine ⟨(_, i1 + 1), ?nx1, ?mu1, Less.tn ⟨rfl, ⟨rfl, incS hlt1 hB1, rfl, rfl, trivial⟩, trivial⟩⟩
              case nx1 =>
                try dsimp only
                exact ⟨hlt1, all_next hi1.2.1 (by rw [badR, ← hi1.2.2]; simp only [show (oneR s i1) = false from hb37, show (netR s i1) = false from hb55, show (b4) = true from hb57, Bool.not_true, Bool.true_and, Bool.false_and, Bool.true_or, Bool.false_or, Bool.or_true, Bool.and_true, Bool.or_false, Bool.and_false, Bool.not_true, Bool.not_false]), by rw [zerosR_next, ← hi1.2.2]; simp only [show (oneR s i1) = false from hb37, show (netR s i1) = false from hb55, show (b4) = true from hb57, Bool.true_and, Bool.false_and, Bool.true_or, Bool.false_or, Bool.or_true, Bool.and_true, Bool.or_false, Bool.and_false, Bool.not_true, Bool.not_false]⟩
              case mu1 =>
                try dsimp only
                first | omega | (simp only [w64] at *; omega) | (simp [w64] at *; omega)
            · skip
              iterate 4 refine AwOps.v hT rfl ?_
              repeat (first | refine AwOps.nil ?_ | refine AwSch.nil ?_ | refine Aw.seq ?_ | refine Aw.region ?_ | refine Aw.block ?_ | refine Aw.skip ?_ | refine Aw.exit ?_ | refine Aw.condT rfl ?_ | refine Aw.condF rfl ?_)
              iterate 3 refine AwOps.v hT rfl ?_
              repeat (first | refine AwOps.nil ?_ | refine AwSch.nil ?_ | refine Aw.seq ?_ | refine Aw.region ?_ | refine Aw.block ?_ | refine Aw.skip ?_ | refine Aw.exit ?_ | refine Aw.condT rfl ?_ | refine Aw.condF rfl ?_)
              refine ⟨(_, i1 + 1), ?nx1, ?mu1, Less.tn ⟨rfl, ⟨rfl, incS hlt1 hB1, rfl, rfl, trivial⟩, trivial⟩⟩
              case nx1 =>
                try dsimp only
                exact ⟨hlt1, all_next hi1.2.1 (by rw [badR, ← hi1.2.2]; simp only [show (oneR s i1) = false from hb37, show (netR s i1) = false from hb55, show (b4) = false from hb57, Bool.not_true, Bool.true_and, Bool.false_and, Bool.true_or, Bool.false_or, Bool.or_true, Bool.and_true, Bool.or_false, Bool.and_false, Bool.not_true, Bool.not_false]), by rw [zerosR_next, ← hi1.2.2]; simp only [show (oneR s i1) = false from hb37, show (netR s i1) = false from hb55, show (b4) = false from hb57, Bool.true_and, Bool.false_and, Bool.true_or, Bool.false_or, Bool.or_true, Bool.and_true, Bool.or_false, Bool.and_false, Bool.not_true, Bool.not_false]⟩
              case mu1 =>
                try dsimp only
                first | omega | (simp only [w64] at *; omega) | (simp [w64] at *; omega)
      · skip
        repeat (first | refine AwOps.nil ?_ | refine AwSch.nil ?_ | refine Aw.seq ?_ | refine Aw.region ?_ | refine Aw.block ?_ | refine Aw.skip ?_ | refine Aw.exit ?_ | refine Aw.condT rfl ?_ | refine Aw.condF rfl ?_)
        refine AwOps.v hT rfl ?_
        repeat (first | refine AwOps.nil ?_ | refine AwSch.nil ?_ | refine Aw.seq ?_ | refine Aw.region ?_ | refine Aw.block ?_ | refine Aw.skip ?_ | refine Aw.exit ?_ | refine Aw.condT rfl ?_ | refine Aw.condF rfl ?_)
        refine Aw.ret ?_
        refine ⟨_, [], rfl, trivial, ?_⟩
        exact scb (by rw [rangeB, rall_full hi1.2.1 (by have := of_decide_eq_false hb21; simp; omega) hi1.1]; simp only [show ((s.size : Int) != 8) = false from hb10, Bool.true_and, Bool.false_and, Bool.true_or, Bool.false_or, Bool.or_true, Bool.and_true, Bool.or_false, Bool.and_false, Bool.not_true, Bool.not_false] <;> first | done | rfl | (simp; done))
def andK (k : IntKind) (a b : Int) : Int := k.wrap ((BitVec.ofInt k.bits a &&& BitVec.ofInt k.bits b).toNat : Int)
theorem andK_run {P : Program} {k : IntKind} {t : TypeId} {x y : Operand} {a b : Int} : BinRun P .and t x y (.int k a) (.int k b) (.int k (andK k a b)) := fun w => by
  rw [Sem.run_bind]
  show ((binOp .and t (.int k a) (.int k b))).run P w = _
  simp [binOp, Op.intBits, andK]
def adrB (s : ByteArray) : Bool := (s.size : Int) == 4 || (s.size : Int) == 16
def wholeB (a r : ByteArray) : Bool := adrB a && (a.size : Int) == (r.size : Int) / 2
def adw1 (a r : ByteArray) (j : Nat) : Bool := andK .u8 (bt a j) (bt r (r.size / 2 + j)) != bt r j
def adw2 (a r : ByteArray) (j : Nat) : Bool := andK .u8 (bt a (r.size / 2 + j)) (bt r (r.size / 2 + j)) != bt r (r.size / 2 + j)
def addrWithinB (a r : ByteArray) : Bool := rangeB r && (!(!wholeB a r && (!rangeB a || (a.size : Int) != (r.size : Int))) && (List.range (r.size / 2)).all fun j => !(adw1 a r j || (!wholeB a r && adw2 a r j)))
theorem rangeB_size {s : ByteArray} (h : rangeB s = true) : s.size = 8 ∨ s.size = 32 := by
  rw [rangeB, Bool.and_eq_true] at h
  have := h.1
  simp at this
  omega
theorem adw_ix {r : ByteArray} {i : Nat} : ((r.size : Int) / 2 + (i : Int)).toNat = r.size / 2 + i := by omega
-- f137 certpath/certpathref07.AddressWithin
theorem F137 (a b : ByteArray) (ha : a.size ≤ 1099511627776) (hb : b.size ≤ 1099511627776) : Fn Tryz.prog 69 [.pv (sc (.string a)), .pv (sc (.string b))] [] (fun r _ => r = sc (.bool (addrWithinB a b))) := by
  refine Fn.intro (rs := [.tmp 4]) hT Tryz.func69 (by kernel_rfl) rfl rfl rfl rfl fun C => ?_
  repeat (first | refine AwOps.nil ?_ | refine AwSch.nil ?_ | refine Aw.seq ?_ | refine Aw.region ?_ | refine Aw.block ?_ | refine Aw.skip ?_ | refine Aw.exit ?_ | refine Aw.condT rfl ?_ | refine Aw.condF rfl ?_)
  refine AwOps.v hT rfl ?_
  repeat (first | refine AwOps.nil ?_ | refine AwSch.nil ?_ | refine Aw.seq ?_ | refine Aw.region ?_ | refine Aw.block ?_ | refine Aw.skip ?_ | refine Aw.exit ?_ | refine Aw.condT rfl ?_ | refine Aw.condF rfl ?_)
  refine AwOps.v hT rfl ?_
  refine AwOps.cl (F146 _ (by first | omega | (simp only [ByteArray.size_extract, ByteArray.size_append, loI, hiI]; omega))) [] rfl ⟨⟨rfl, rfl⟩, trivial⟩ trivial rfl ?_   -- certpathref07.Range
  rintro _ _ rfl
  refine AwOps.v hT rfl ?_
  repeat (first | refine AwOps.nil ?_ | refine AwSch.nil ?_ | refine Aw.seq ?_ | refine Aw.region ?_ | refine Aw.block ?_ | refine Aw.skip ?_ | refine Aw.exit ?_ | refine Aw.condT rfl ?_ | refine Aw.condF rfl ?_)
  refine Aw.tst rfl (fun hb10 => ?_) (fun hb10 => ?_)
  · skip
    repeat (first | refine AwOps.nil ?_ | refine AwSch.nil ?_ | refine Aw.seq ?_ | refine Aw.region ?_ | refine Aw.block ?_ | refine Aw.skip ?_ | refine Aw.exit ?_ | refine Aw.condT rfl ?_ | refine Aw.condF rfl ?_)
    refine AwOps.v hT rfl ?_
    repeat (first | refine AwOps.nil ?_ | refine AwSch.nil ?_ | refine Aw.seq ?_ | refine Aw.region ?_ | refine Aw.block ?_ | refine Aw.skip ?_ | refine Aw.exit ?_ | refine Aw.condT rfl ?_ | refine Aw.condF rfl ?_)
    refine Aw.ret ?_
    refine ⟨_, [], rfl, trivial, ?_⟩
    exact scb (by rw [addrWithinB, show rangeB b = false by simpa using hb10]; rfl)
  · skip
    have hr : rangeB b = true := by simpa using hb10
    have hz := rangeB_size hr
    repeat (first | refine AwOps.nil ?_ | refine AwSch.nil ?_ | refine Aw.seq ?_ | refine Aw.region ?_ | refine Aw.block ?_ | refine Aw.skip ?_ | refine Aw.exit ?_ | refine Aw.condT rfl ?_ | refine Aw.condF rfl ?_)
    iterate 3 refine AwOps.v hT rfl ?_
    first | refine AwOps.nmq 13 rfl (by omega) (by omega) (by omega) ?_ | skip
    refine AwOps.v hT rfl ?_
    repeat (first | refine AwOps.nil ?_ | refine AwSch.nil ?_ | refine Aw.seq ?_ | refine Aw.region ?_ | refine Aw.block ?_ | refine Aw.skip ?_ | refine Aw.exit ?_ | refine Aw.condT rfl ?_ | refine Aw.condF rfl ?_)
    refine AwOps.v hT rfl ?_
    refine AwOps.cl (F147 _ (by first | omega | (simp only [ByteArray.size_extract, ByteArray.size_append, loI, hiI]; omega))) [] rfl ⟨⟨rfl, rfl⟩, trivial⟩ trivial rfl ?_   -- certpathref07.Address
    rintro _ _ rfl
    refine AwOps.v hT rfl ?_
    refine AwOps.split (t := 16) rfl (fun hb16 => ?_) (fun hb16 => ?_)
    · skip
      iterate 6 refine AwOps.v hT rfl ?_
      repeat (first | refine AwOps.nil ?_ | refine AwSch.nil ?_ | refine Aw.seq ?_ | refine Aw.region ?_ | refine Aw.block ?_ | refine Aw.skip ?_ | refine Aw.exit ?_ | refine Aw.condT rfl ?_ | refine Aw.condF rfl ?_)
      iterate 3 refine AwOps.v hT rfl ?_
      refine AwOps.split (t := 24) rfl (fun hb24 => ?_) (fun hb24 => ?_)
      · skip
        have hw : wholeB a b = false := by rw [wholeB, show ((a.size : Int) == (b.size : Int) / 2) = false by simpa using hb24]; simp
        refine AwOps.turn (Less.say (t := 6) (B := sc (.bool false)) rfl (by rw [show ((a.size : Int) == (b.size : Int) / 2) = false by simpa using hb24])) ?_
        refine AwOps.v hT rfl ?_
        refine AwOps.cl (F146 _ (by first | omega | (simp only [ByteArray.size_extract, ByteArray.size_append, loI, hiI]; omega))) [] rfl ⟨⟨rfl, rfl⟩, trivial⟩ trivial rfl ?_   -- certpathref07.Range
        rintro _ _ rfl
        refine AwOps.v hT rfl ?_
        refine AwOps.v hT rfl ?_
        refine AwOps.split (t := 28) rfl (fun hb28 => ?_) (fun hb28 => ?_)
        · skip
          iterate 7 refine AwOps.v hT rfl ?_
          repeat (first | refine AwOps.nil ?_ | refine AwSch.nil ?_ | refine Aw.seq ?_ | refine Aw.region ?_ | refine Aw.block ?_ | refine Aw.skip ?_ | refine Aw.exit ?_ | refine Aw.condT rfl ?_ | refine Aw.condF rfl ?_)
          refine AwOps.v hT rfl ?_
          repeat (first | refine AwOps.nil ?_ | refine AwSch.nil ?_ | refine Aw.seq ?_ | refine Aw.region ?_ | refine Aw.block ?_ | refine Aw.skip ?_ | refine Aw.exit ?_ | refine Aw.condT rfl ?_ | refine Aw.condF rfl ?_)
          refine Aw.ret ?_
          refine ⟨_, [], rfl, trivial, ?_⟩
          exact scb (by rw [addrWithinB, hr]; simp only [show (!rangeB a) = true from hb28, hw, Bool.true_and, Bool.false_and, Bool.true_or, Bool.false_or, Bool.or_true, Bool.and_true, Bool.or_false, Bool.and_false, Bool.not_true, Bool.not_false])
        · skip
          iterate 7 refine AwOps.v hT rfl ?_
          repeat (first | refine AwOps.nil ?_ | refine AwSch.nil ?_ | refine Aw.seq ?_ | refine Aw.region ?_ | refine Aw.block ?_ | refine Aw.skip ?_ | refine Aw.exit ?_ | refine Aw.condT rfl ?_ | refine Aw.condF rfl ?_)
          refine Aw.tst rfl (fun hb35 => ?_) (fun hb35 => ?_)
          · skip
            repeat (first | refine AwOps.nil ?_ | refine AwSch.nil ?_ | refine Aw.seq ?_ | refine Aw.region ?_ | refine Aw.block ?_ | refine Aw.skip ?_ | refine Aw.exit ?_ | refine Aw.condT rfl ?_ | refine Aw.condF rfl ?_)
            refine AwOps.v hT rfl ?_
            repeat (first | refine AwOps.nil ?_ | refine AwSch.nil ?_ | refine Aw.seq ?_ | refine Aw.region ?_ | refine Aw.block ?_ | refine Aw.skip ?_ | refine Aw.exit ?_ | refine Aw.condT rfl ?_ | refine Aw.condF rfl ?_)
            refine Aw.ret ?_
            refine ⟨_, [], rfl, trivial, ?_⟩
            exact scb (by rw [addrWithinB, hr]; simp only [show (!rangeB a) = false from hb28, show ((a.size : Int) != (b.size : Int)) = true from hb35, hw, Bool.true_and, Bool.false_and, Bool.true_or, Bool.false_or, Bool.or_true, Bool.and_true, Bool.or_false, Bool.and_false, Bool.not_true, Bool.not_false])
          · skip
            have hsz : a.size = b.size := by
              have h' := hb35
              simp at h'
              omega
            repeat (first | refine AwOps.nil ?_ | refine AwSch.nil ?_ | refine Aw.seq ?_ | refine Aw.region ?_ | refine Aw.block ?_ | refine Aw.skip ?_ | refine Aw.exit ?_ | refine Aw.condT rfl ?_ | refine Aw.condF rfl ?_)
            refine AwOps.v hT rfl ?_
            repeat (first | refine AwOps.nil ?_ | refine AwSch.nil ?_ | refine Aw.seq ?_ | refine Aw.region ?_ | refine Aw.block ?_ | refine Aw.skip ?_ | refine Aw.exit ?_ | refine Aw.condT rfl ?_ | refine Aw.condF rfl ?_)
            have hB1 : b.size / 2 ≤ maxLen := by unfold maxLen; omega
            repeat (first | refine AwOps.nil ?_ | refine AwSch.nil ?_ | refine Aw.seq ?_ | refine Aw.region ?_ | refine Aw.block ?_ | refine Aw.skip ?_ | refine Aw.exit ?_ | refine Aw.condT rfl ?_ | refine Aw.condF rfl ?_)
            refine Aw.lp (ι := Nat) (n := 77) [(0, _), (1, _), (5, _), (6, _)] [] (fun gq => [(7, sc (.int .i64 gq))]) (fun gq => []) (fun gq => gq ≤ b.size / 2 ∧ ((List.range gq).all (fun j => !(adw1 a b j || (!wholeB a b && adw2 a b j))) = true)) (fun gq => b.size / 2 - gq) (0) ?ok1 (Less.tn ⟨rfl, ⟨rfl, rfl, rfl, rfl, rfl, trivial⟩, trivial⟩) ?bd1
            case ok1 =>
              try dsimp only
              exact ⟨Nat.zero_le _, rfl⟩
            case bd1 =>
              intro i1 hi1
              try dsimp only at hi1
              show Aw _ _ _ ⟨77, [(7, sc (.int .i64 i1))] ++ [(0, _), (1, _), (5, _), (6, _)], [] ++ []⟩ _
              repeat (first | refine AwOps.nil ?_ | refine AwSch.nil ?_ | refine Aw.seq ?_ | refine Aw.region ?_ | refine Aw.block ?_ | refine Aw.skip ?_ | refine Aw.exit ?_ | refine Aw.condT rfl ?_ | refine Aw.condF rfl ?_)
              iterate 3 refine AwOps.v hT rfl ?_
              repeat (first | refine AwOps.nil ?_ | refine AwSch.nil ?_ | refine Aw.seq ?_ | refine Aw.region ?_ | refine Aw.block ?_ | refine Aw.skip ?_ | refine Aw.exit ?_ | refine Aw.condT rfl ?_ | refine Aw.condF rfl ?_)
              refine Aw.tst rfl (fun hb38 => ?_) (fun hb38 => ?_)
              · skip
                have hlt1 : i1 < b.size / 2 := by first | simpa using hb38 | (have h' := hb38; simp at h'; omega)
                repeat (first | refine AwOps.nil ?_ | refine AwSch.nil ?_ | refine Aw.seq ?_ | refine Aw.region ?_ | refine Aw.block ?_ | refine Aw.skip ?_ | refine Aw.exit ?_ | refine Aw.condT rfl ?_ | refine Aw.condF rfl ?_)
                refine Aw.regionS [] [(true, 0), (true, 1), (true, 2), (true, 3), (true, 4), (true, 5), (true, 6), (true, 7), (true, 8), (true, 9), (true, 10), (true, 11), (true, 12), (true, 13), (true, 14), (true, 15), (true, 16), (true, 17), (true, 18), (true, 19), (true, 20), (true, 21), (true, 22), (true, 23), (true, 24), (true, 25), (true, 26), (true, 27), (true, 28), (true, 29), (true, 30), (true, 31), (true, 32), (true, 33), (true, 34), (true, 35)] (by kernel_rfl) (by kernel_rfl) ?_
                refine AwSch.take (Yd.val hT rfl rfl) ?_
                refine AwSch.take (Yd.val hT rfl rfl) ?_
                refine AwSch.take (Yd.byte hT rfl (by omega) (by omega)) ?_
                iterate 4 refine AwSch.take (Yd.val hT rfl rfl) ?_
                first | refine AwSch.nm 47 rfl (by omega) (by omega) ?_ | skip
                first | refine AwSch.nm 47 rfl (by omega) (by omega) ?_ | skip
                refine AwSch.take (Yd.byte hT rfl (by omega) (by omega)) ?_
                refine AwSch.take (Yd.bin rfl _ rfl andK_run) ?_
                refine AwSch.take (Yd.val hT rfl rfl) ?_
                refine AwSch.take (Yd.val hT rfl rfl) ?_
                refine AwSch.take (Yd.byte hT rfl (by omega) (by omega)) ?_
                refine AwSch.take (Yd.val hT rfl rfl) ?_
                refine AwSch.say (t := 53) (B := sc (.bool (adw1 a b i1))) rfl (by rw [adw1, ← adw_ix]; rfl) ?_
                refine AwSch.take (Yd.val hT rfl rfl) ?_
                refine AwSch.split (t := 54) rfl (fun hb54 => ?_) (fun hb54 => ?_)
                · skip
                  iterate 20 refine AwSch.take (Yd.val hT rfl rfl) ?_
                  first | refine AwSch.say (t := 74) (B := sc (.bool (adw2 a b i1))) rfl (by rw [adw2, ← adw_ix]; rfl) ?_ | skip
                  refine AwSch.take (Yd.val hT rfl rfl) ?_
                  refine AwSch.take (Yd.val hT rfl rfl) ?_
                  repeat (first | refine AwOps.nil ?_ | refine AwSch.nil ?_ | refine Aw.seq ?_ | refine Aw.region ?_ | refine Aw.block ?_ | refine Aw.skip ?_ | refine Aw.exit ?_ | refine Aw.condT rfl ?_ | refine Aw.condF rfl ?_)
                  refine AwOps.v hT rfl ?_
                  repeat (first | refine AwOps.nil ?_ | refine AwSch.nil ?_ | refine Aw.seq ?_ | refine Aw.region ?_ | refine Aw.block ?_ | refine Aw.skip ?_ | refine Aw.exit ?_ | refine Aw.condT rfl ?_ | refine Aw.condF rfl ?_)
                  refine Aw.ret ?_
                  refine ⟨_, [], rfl, trivial, ?_⟩
                  exact scb (by rw [addrWithinB, all_miss hlt1 (by simp only [show (adw1 a b i1) = true from hb54, hw, Bool.true_and, Bool.false_and, Bool.true_or, Bool.false_or, Bool.or_true, Bool.and_true, Bool.or_false, Bool.and_false, Bool.not_true, Bool.not_false])]; simp)
                · skip
                  iterate 7 refine AwSch.take (Yd.val hT rfl rfl) ?_
                  first | refine AwSch.nm 61 rfl (by omega) (by omega) ?_ | skip
                  refine AwSch.take (Yd.byte hT rfl (by omega) (by omega)) ?_
                  iterate 4 refine AwSch.take (Yd.val hT rfl rfl) ?_
                  first | refine AwSch.nm 66 rfl (by omega) (by omega) ?_ | skip
                  refine AwSch.take (Yd.byte hT rfl (by omega) (by omega)) ?_
                  refine AwSch.take (Yd.bin rfl _ rfl andK_run) ?_
                  iterate 4 refine AwSch.take (Yd.val hT rfl rfl) ?_
                  first | refine AwSch.nm 72 rfl (by omega) (by omega) ?_ | skip
                  refine AwSch.take (Yd.byte hT rfl (by omega) (by omega)) ?_
                  refine AwSch.take (Yd.val hT rfl rfl) ?_
                  first | refine AwSch.say (t := 74) (B := sc (.bool (adw2 a b i1))) rfl (by rw [adw2, ← adw_ix]; rfl) ?_ | skip
                  refine AwSch.take (Yd.val hT rfl rfl) ?_
                  refine AwSch.take (Yd.val hT rfl rfl) ?_
                  repeat (first | refine AwOps.nil ?_ | refine AwSch.nil ?_ | refine Aw.seq ?_ | refine Aw.region ?_ | refine Aw.block ?_ | refine Aw.skip ?_ | refine Aw.exit ?_ | refine Aw.condT rfl ?_ | refine Aw.condF rfl ?_)
                  refine Aw.tst rfl (fun hb76 => ?_) (fun hb76 => ?_)
                  · skip
                    repeat (first | refine AwOps.nil ?_ | refine AwSch.nil ?_ | refine Aw.seq ?_ | refine Aw.region ?_ | refine Aw.block ?_ | refine Aw.skip ?_ | refine Aw.exit ?_ | refine Aw.condT rfl ?_ | refine Aw.condF rfl ?_)
                    refine AwOps.v hT rfl ?_
                    repeat (first | refine AwOps.nil ?_ | refine AwSch.nil ?_ | refine Aw.seq ?_ | refine Aw.region ?_ | refine Aw.block ?_ | refine Aw.skip ?_ | refine Aw.exit ?_ | refine Aw.condT rfl ?_ | refine Aw.condF rfl ?_)
                    refine Aw.ret ?_
                    refine ⟨_, [], rfl, trivial, ?_⟩
                    exact scb (by rw [addrWithinB, all_miss hlt1 (by simp only [show (adw1 a b i1) = false from hb54, show (adw2 a b i1) = true from hb76, hw, Bool.true_and, Bool.false_and, Bool.true_or, Bool.false_or, Bool.or_true, Bool.and_true, Bool.or_false, Bool.and_false, Bool.not_true, Bool.not_false])]; simp)
                  · skip
                    repeat (first | refine AwOps.nil ?_ | refine AwSch.nil ?_ | refine Aw.seq ?_ | refine Aw.region ?_ | refine Aw.block ?_ | refine Aw.skip ?_ | refine Aw.exit ?_ | refine Aw.condT rfl ?_ | refine Aw.condF rfl ?_)
                    iterate 3 refine AwOps.v hT rfl ?_
                    repeat (first | refine AwOps.nil ?_ | refine AwSch.nil ?_ | refine Aw.seq ?_ | refine Aw.region ?_ | refine Aw.block ?_ | refine Aw.skip ?_ | refine Aw.exit ?_ | refine Aw.condT rfl ?_ | refine Aw.condF rfl ?_)
                    refine ⟨(i1 + 1), ?nx1, ?mu1, Less.tn ⟨rfl, ⟨incS hlt1 hB1, rfl, rfl, rfl, rfl, trivial⟩, trivial⟩⟩
                    case nx1 =>
                      try dsimp only
                      exact ⟨hlt1, all_next hi1.2 (by simp only [show (adw1 a b i1) = false from hb54, show (adw2 a b i1) = false from hb76, hw, Bool.true_and, Bool.false_and, Bool.true_or, Bool.false_or, Bool.or_true, Bool.and_true, Bool.or_false, Bool.and_false, Bool.not_true, Bool.not_false])⟩
                    case mu1 =>
                      try dsimp only
                      first | omega | (simp only [w64] at *; omega) | (simp [w64] at *; omega)
              · skip
                repeat (first | refine AwOps.nil ?_ | refine AwSch.nil ?_ | refine Aw.seq ?_ | refine Aw.region ?_ | refine Aw.block ?_ | refine Aw.skip ?_ | refine Aw.exit ?_ | refine Aw.condT rfl ?_ | refine Aw.condF rfl ?_)
                refine AwOps.v hT rfl ?_
                repeat (first | refine AwOps.nil ?_ | refine AwSch.nil ?_ | refine Aw.seq ?_ | refine Aw.region ?_ | refine Aw.block ?_ | refine Aw.skip ?_ | refine Aw.exit ?_ | refine Aw.condT rfl ?_ | refine Aw.condF rfl ?_)
                refine Aw.ret ?_
                refine ⟨_, [], rfl, trivial, ?_⟩
                exact scb (by rw [addrWithinB, hr, rall_full hi1.2 (by have := of_decide_eq_false hb38; simp; omega) hi1.1]; simp only [show (!rangeB a) = false from hb28, show ((a.size : Int) != (b.size : Int)) = false from hb35, hw, Bool.true_and, Bool.false_and, Bool.true_or, Bool.false_or, Bool.or_true, Bool.and_true, Bool.or_false, Bool.and_false, Bool.not_true, Bool.not_false])
      · skip
        have hw : wholeB a b = true := by rw [wholeB, show adrB a = true from hb16, show ((a.size : Int) == (b.size : Int) / 2) = true by simpa using hb24]; rfl
        have hsz : b.size / 2 ≤ a.size := by
          have h' : ((a.size : Int) == (b.size : Int) / 2) = true := by simpa using hb24
          simp at h'
          omega
        refine AwOps.turn (Less.say (t := 6) (B := sc (.bool true)) rfl (by rw [show ((a.size : Int) == (b.size : Int) / 2) = true by simpa using hb24])) ?_
        iterate 11 refine AwOps.v hT rfl ?_
        repeat (first | refine AwOps.nil ?_ | refine AwSch.nil ?_ | refine Aw.seq ?_ | refine Aw.region ?_ | refine Aw.block ?_ | refine Aw.skip ?_ | refine Aw.exit ?_ | refine Aw.condT rfl ?_ | refine Aw.condF rfl ?_)
        refine AwOps.v hT rfl ?_
        repeat (first | refine AwOps.nil ?_ | refine AwSch.nil ?_ | refine Aw.seq ?_ | refine Aw.region ?_ | refine Aw.block ?_ | refine Aw.skip ?_ | refine Aw.exit ?_ | refine Aw.condT rfl ?_ | refine Aw.condF rfl ?_)
        have hB1 : b.size / 2 ≤ maxLen := by unfold maxLen; omega
        repeat (first | refine AwOps.nil ?_ | refine AwSch.nil ?_ | refine Aw.seq ?_ | refine Aw.region ?_ | refine Aw.block ?_ | refine Aw.skip ?_ | refine Aw.exit ?_ | refine Aw.condT rfl ?_ | refine Aw.condF rfl ?_)
        refine Aw.lp (ι := Nat) (n := 77) [(0, _), (1, _), (5, _), (6, _)] [] (fun gq => [(7, sc (.int .i64 gq))]) (fun gq => []) (fun gq => gq ≤ b.size / 2 ∧ ((List.range gq).all (fun j => !(adw1 a b j || (!wholeB a b && adw2 a b j))) = true)) (fun gq => b.size / 2 - gq) (0) ?ok1 (Less.tn ⟨rfl, ⟨rfl, rfl, rfl, rfl, rfl, trivial⟩, trivial⟩) ?bd1
        case ok1 =>
          try dsimp only
          exact ⟨Nat.zero_le _, rfl⟩
        case bd1 =>
          intro i1 hi1
          try dsimp only at hi1
          show Aw _ _ _ ⟨77, [(7, sc (.int .i64 i1))] ++ [(0, _), (1, _), (5, _), (6, _)], [] ++ []⟩ _
          repeat (first | refine AwOps.nil ?_ | refine AwSch.nil ?_ | refine Aw.seq ?_ | refine Aw.region ?_ | refine Aw.block ?_ | refine Aw.skip ?_ | refine Aw.exit ?_ | refine Aw.condT rfl ?_ | refine Aw.condF rfl ?_)
          iterate 3 refine AwOps.v hT rfl ?_
          repeat (first | refine AwOps.nil ?_ | refine AwSch.nil ?_ | refine Aw.seq ?_ | refine Aw.region ?_ | refine Aw.block ?_ | refine Aw.skip ?_ | refine Aw.exit ?_ | refine Aw.condT rfl ?_ | refine Aw.condF rfl ?_)
          refine Aw.tst rfl (fun hb38 => ?_) (fun hb38 => ?_)
          · skip
            have hlt1 : i1 < b.size / 2 := by first | simpa using hb38 | (have h' := hb38; simp at h'; omega)
            repeat (first | refine AwOps.nil ?_ | refine AwSch.nil ?_ | refine Aw.seq ?_ | refine Aw.region ?_ | refine Aw.block ?_ | refine Aw.skip ?_ | refine Aw.exit ?_ | refine Aw.condT rfl ?_ | refine Aw.condF rfl ?_)
            refine Aw.regionS [] [(true, 0), (true, 1), (true, 2), (true, 3), (true, 4), (true, 5), (true, 6), (true, 7), (true, 8), (true, 9), (true, 10), (true, 11), (true, 12), (true, 13), (true, 14), (true, 15), (true, 16), (true, 17), (true, 18), (true, 19), (true, 20), (true, 21), (true, 22), (true, 23), (true, 24), (true, 25), (true, 26), (true, 27), (true, 28), (true, 29), (true, 30), (true, 31), (true, 32), (true, 33), (true, 34), (true, 35)] (by kernel_rfl) (by kernel_rfl) ?_
            refine AwSch.take (Yd.val hT rfl rfl) ?_
            refine AwSch.take (Yd.val hT rfl rfl) ?_
            refine AwSch.take (Yd.byte hT rfl (by omega) (by omega)) ?_
            iterate 4 refine AwSch.take (Yd.val hT rfl rfl) ?_
            first | refine AwSch.nm 47 rfl (by omega) (by omega) ?_ | skip
            first | refine AwSch.nm 47 rfl (by omega) (by omega) ?_ | skip
            refine AwSch.take (Yd.byte hT rfl (by omega) (by omega)) ?_
            refine AwSch.take (Yd.bin rfl _ rfl andK_run) ?_
            refine AwSch.take (Yd.val hT rfl rfl) ?_
            refine AwSch.take (Yd.val hT rfl rfl) ?_
            refine AwSch.take (Yd.byte hT rfl (by omega) (by omega)) ?_
            refine AwSch.take (Yd.val hT rfl rfl) ?_
            refine AwSch.say (t := 53) (B := sc (.bool (adw1 a b i1))) rfl (by rw [adw1, ← adw_ix]; rfl) ?_
            refine AwSch.take (Yd.val hT rfl rfl) ?_
            refine AwSch.split (t := 54) rfl (fun hb54 => ?_) (fun hb54 => ?_)
            · skip
              iterate 20 refine AwSch.take (Yd.val hT rfl rfl) ?_
              first | refine AwSch.say (t := 74) (B := sc (.bool (adw2 a b i1))) rfl (by rw [adw2, ← adw_ix]; rfl) ?_ | skip
              refine AwSch.take (Yd.val hT rfl rfl) ?_
              refine AwSch.take (Yd.val hT rfl rfl) ?_
              repeat (first | refine AwOps.nil ?_ | refine AwSch.nil ?_ | refine Aw.seq ?_ | refine Aw.region ?_ | refine Aw.block ?_ | refine Aw.skip ?_ | refine Aw.exit ?_ | refine Aw.condT rfl ?_ | refine Aw.condF rfl ?_)
              refine AwOps.v hT rfl ?_
              repeat (first | refine AwOps.nil ?_ | refine AwSch.nil ?_ | refine Aw.seq ?_ | refine Aw.region ?_ | refine Aw.block ?_ | refine Aw.skip ?_ | refine Aw.exit ?_ | refine Aw.condT rfl ?_ | refine Aw.condF rfl ?_)
              refine Aw.ret ?_
              refine ⟨_, [], rfl, trivial, ?_⟩
              exact scb (by rw [addrWithinB, all_miss hlt1 (by simp only [show (adw1 a b i1) = true from hb54, hw, Bool.true_and, Bool.false_and, Bool.true_or, Bool.false_or, Bool.or_true, Bool.and_true, Bool.or_false, Bool.and_false, Bool.not_true, Bool.not_false])]; simp)
            · skip
              iterate 20 refine AwSch.take (Yd.val hT rfl rfl) ?_
              first | refine AwSch.say (t := 74) (B := sc (.bool (adw2 a b i1))) rfl (by rw [adw2, ← adw_ix]; rfl) ?_ | skip
              refine AwSch.take (Yd.val hT rfl rfl) ?_
              refine AwSch.take (Yd.val hT rfl rfl) ?_
              repeat (first | refine AwOps.nil ?_ | refine AwSch.nil ?_ | refine Aw.seq ?_ | refine Aw.region ?_ | refine Aw.block ?_ | refine Aw.skip ?_ | refine Aw.exit ?_ | refine Aw.condT rfl ?_ | refine Aw.condF rfl ?_)
              iterate 3 refine AwOps.v hT rfl ?_
              repeat (first | refine AwOps.nil ?_ | refine AwSch.nil ?_ | refine Aw.seq ?_ | refine Aw.region ?_ | refine Aw.block ?_ | refine Aw.skip ?_ | refine Aw.exit ?_ | refine Aw.condT rfl ?_ | refine Aw.condF rfl ?_)
              refine ⟨(i1 + 1), ?nx1, ?mu1, Less.tn ⟨rfl, ⟨incS hlt1 hB1, rfl, rfl, rfl, rfl, trivial⟩, trivial⟩⟩
              case nx1 =>
                try dsimp only
                exact ⟨hlt1, all_next hi1.2 (by simp only [show (adw1 a b i1) = false from hb54, hw, Bool.true_and, Bool.false_and, Bool.true_or, Bool.false_or, Bool.or_true, Bool.and_true, Bool.or_false, Bool.and_false, Bool.not_true, Bool.not_false])⟩
              case mu1 =>
                try dsimp only
                first | omega | (simp only [w64] at *; omega) | (simp [w64] at *; omega)
          · skip
            repeat (first | refine AwOps.nil ?_ | refine AwSch.nil ?_ | refine Aw.seq ?_ | refine Aw.region ?_ | refine Aw.block ?_ | refine Aw.skip ?_ | refine Aw.exit ?_ | refine Aw.condT rfl ?_ | refine Aw.condF rfl ?_)
            refine AwOps.v hT rfl ?_
            repeat (first | refine AwOps.nil ?_ | refine AwSch.nil ?_ | refine Aw.seq ?_ | refine Aw.region ?_ | refine Aw.block ?_ | refine Aw.skip ?_ | refine Aw.exit ?_ | refine Aw.condT rfl ?_ | refine Aw.condF rfl ?_)
            refine Aw.ret ?_
            refine ⟨_, [], rfl, trivial, ?_⟩
            exact scb (by rw [addrWithinB, hr, rall_full hi1.2 (by have := of_decide_eq_false hb38; simp; omega) hi1.1]; simp only [hw, Bool.true_and, Bool.false_and, Bool.true_or, Bool.false_or, Bool.or_true, Bool.and_true, Bool.or_false, Bool.and_false, Bool.not_true, Bool.not_false])
    · skip
      have hw : wholeB a b = false := by rw [wholeB, show adrB a = false from hb16]; rfl
      iterate 6 refine AwOps.v hT rfl ?_
      repeat (first | refine AwOps.nil ?_ | refine AwSch.nil ?_ | refine Aw.seq ?_ | refine Aw.region ?_ | refine Aw.block ?_ | refine Aw.skip ?_ | refine Aw.exit ?_ | refine Aw.condT rfl ?_ | refine Aw.condF rfl ?_)
      iterate 4 refine AwOps.v hT rfl ?_
      refine AwOps.cl (F146 _ (by first | omega | (simp only [ByteArray.size_extract, ByteArray.size_append, loI, hiI]; omega))) [] rfl ⟨⟨rfl, rfl⟩, trivial⟩ trivial rfl ?_   -- certpathref07.Range
      rintro _ _ rfl
      refine AwOps.v hT rfl ?_
      refine AwOps.v hT rfl ?_
      refine AwOps.split (t := 28) rfl (fun hb28 => ?_) (fun hb28 => ?_)
      · skip
        iterate 7 refine AwOps.v hT rfl ?_
        repeat (first | refine AwOps.nil ?_ | refine AwSch.nil ?_ | refine Aw.seq ?_ | refine Aw.region ?_ | refine Aw.block ?_ | refine Aw.skip ?_ | refine Aw.exit ?_ | refine Aw.condT rfl ?_ | refine Aw.condF rfl ?_)
        refine AwOps.v hT rfl ?_
        repeat (first | refine AwOps.nil ?_ | refine AwSch.nil ?_ | refine Aw.seq ?_ | refine Aw.region ?_ | refine Aw.block ?_ | refine Aw.skip ?_ | refine Aw.exit ?_ | refine Aw.condT rfl ?_ | refine Aw.condF rfl ?_)
        refine Aw.ret ?_
        refine ⟨_, [], rfl, trivial, ?_⟩
        exact scb (by rw [addrWithinB, hr]; simp only [show (!rangeB a) = true from hb28, hw, Bool.true_and, Bool.false_and, Bool.true_or, Bool.false_or, Bool.or_true, Bool.and_true, Bool.or_false, Bool.and_false, Bool.not_true, Bool.not_false])
      · skip
        iterate 7 refine AwOps.v hT rfl ?_
        repeat (first | refine AwOps.nil ?_ | refine AwSch.nil ?_ | refine Aw.seq ?_ | refine Aw.region ?_ | refine Aw.block ?_ | refine Aw.skip ?_ | refine Aw.exit ?_ | refine Aw.condT rfl ?_ | refine Aw.condF rfl ?_)
        refine Aw.tst rfl (fun hb35 => ?_) (fun hb35 => ?_)
        · skip
          repeat (first | refine AwOps.nil ?_ | refine AwSch.nil ?_ | refine Aw.seq ?_ | refine Aw.region ?_ | refine Aw.block ?_ | refine Aw.skip ?_ | refine Aw.exit ?_ | refine Aw.condT rfl ?_ | refine Aw.condF rfl ?_)
          refine AwOps.v hT rfl ?_
          repeat (first | refine AwOps.nil ?_ | refine AwSch.nil ?_ | refine Aw.seq ?_ | refine Aw.region ?_ | refine Aw.block ?_ | refine Aw.skip ?_ | refine Aw.exit ?_ | refine Aw.condT rfl ?_ | refine Aw.condF rfl ?_)
          refine Aw.ret ?_
          refine ⟨_, [], rfl, trivial, ?_⟩
          exact scb (by rw [addrWithinB, hr]; simp only [show (!rangeB a) = false from hb28, show ((a.size : Int) != (b.size : Int)) = true from hb35, hw, Bool.true_and, Bool.false_and, Bool.true_or, Bool.false_or, Bool.or_true, Bool.and_true, Bool.or_false, Bool.and_false, Bool.not_true, Bool.not_false])
        · skip
          have hsz : a.size = b.size := by
            have h' := hb35
            simp at h'
            omega
          repeat (first | refine AwOps.nil ?_ | refine AwSch.nil ?_ | refine Aw.seq ?_ | refine Aw.region ?_ | refine Aw.block ?_ | refine Aw.skip ?_ | refine Aw.exit ?_ | refine Aw.condT rfl ?_ | refine Aw.condF rfl ?_)
          refine AwOps.v hT rfl ?_
          repeat (first | refine AwOps.nil ?_ | refine AwSch.nil ?_ | refine Aw.seq ?_ | refine Aw.region ?_ | refine Aw.block ?_ | refine Aw.skip ?_ | refine Aw.exit ?_ | refine Aw.condT rfl ?_ | refine Aw.condF rfl ?_)
          have hB1 : b.size / 2 ≤ maxLen := by unfold maxLen; omega
          repeat (first | refine AwOps.nil ?_ | refine AwSch.nil ?_ | refine Aw.seq ?_ | refine Aw.region ?_ | refine Aw.block ?_ | refine Aw.skip ?_ | refine Aw.exit ?_ | refine Aw.condT rfl ?_ | refine Aw.condF rfl ?_)
          refine Aw.lp (ι := Nat) (n := 77) [(0, _), (1, _), (5, _), (6, _)] [] (fun gq => [(7, sc (.int .i64 gq))]) (fun gq => []) (fun gq => gq ≤ b.size / 2 ∧ ((List.range gq).all (fun j => !(adw1 a b j || (!wholeB a b && adw2 a b j))) = true)) (fun gq => b.size / 2 - gq) (0) ?ok1 (Less.tn ⟨rfl, ⟨rfl, rfl, rfl, rfl, rfl, trivial⟩, trivial⟩) ?bd1
          case ok1 =>
            try dsimp only
            exact ⟨Nat.zero_le _, rfl⟩
          case bd1 =>
            intro i1 hi1
            try dsimp only at hi1
            show Aw _ _ _ ⟨77, [(7, sc (.int .i64 i1))] ++ [(0, _), (1, _), (5, _), (6, _)], [] ++ []⟩ _
            repeat (first | refine AwOps.nil ?_ | refine AwSch.nil ?_ | refine Aw.seq ?_ | refine Aw.region ?_ | refine Aw.block ?_ | refine Aw.skip ?_ | refine Aw.exit ?_ | refine Aw.condT rfl ?_ | refine Aw.condF rfl ?_)
            iterate 3 refine AwOps.v hT rfl ?_
            repeat (first | refine AwOps.nil ?_ | refine AwSch.nil ?_ | refine Aw.seq ?_ | refine Aw.region ?_ | refine Aw.block ?_ | refine Aw.skip ?_ | refine Aw.exit ?_ | refine Aw.condT rfl ?_ | refine Aw.condF rfl ?_)
            refine Aw.tst rfl (fun hb38 => ?_) (fun hb38 => ?_)
            · skip
              have hlt1 : i1 < b.size / 2 := by first | simpa using hb38 | (have h' := hb38; simp at h'; omega)
              repeat (first | refine AwOps.nil ?_ | refine AwSch.nil ?_ | refine Aw.seq ?_ | refine Aw.region ?_ | refine Aw.block ?_ | refine Aw.skip ?_ | refine Aw.exit ?_ | refine Aw.condT rfl ?_ | refine Aw.condF rfl ?_)
              refine Aw.regionS [] [(true, 0), (true, 1), (true, 2), (true, 3), (true, 4), (true, 5), (true, 6), (true, 7), (true, 8), (true, 9), (true, 10), (true, 11), (true, 12), (true, 13), (true, 14), (true, 15), (true, 16), (true, 17), (true, 18), (true, 19), (true, 20), (true, 21), (true, 22), (true, 23), (true, 24), (true, 25), (true, 26), (true, 27), (true, 28), (true, 29), (true, 30), (true, 31), (true, 32), (true, 33), (true, 34), (true, 35)] (by kernel_rfl) (by kernel_rfl) ?_
              refine AwSch.take (Yd.val hT rfl rfl) ?_
              refine AwSch.take (Yd.val hT rfl rfl) ?_
              refine AwSch.take (Yd.byte hT rfl (by omega) (by omega)) ?_
              iterate 4 refine AwSch.take (Yd.val hT rfl rfl) ?_
              first | refine AwSch.nm 47 rfl (by omega) (by omega) ?_ | skip
              first | refine AwSch.nm 47 rfl (by omega) (by omega) ?_ | skip
              refine AwSch.take (Yd.byte hT rfl (by omega) (by omega)) ?_
              refine AwSch.take (Yd.bin rfl _ rfl andK_run) ?_
              refine AwSch.take (Yd.val hT rfl rfl) ?_
              refine AwSch.take (Yd.val hT rfl rfl) ?_
              refine AwSch.take (Yd.byte hT rfl (by omega) (by omega)) ?_
              refine AwSch.take (Yd.val hT rfl rfl) ?_
              refine AwSch.say (t := 53) (B := sc (.bool (adw1 a b i1))) rfl (by rw [adw1, ← adw_ix]; rfl) ?_
              refine AwSch.take (Yd.val hT rfl rfl) ?_
              refine AwSch.split (t := 54) rfl (fun hb54 => ?_) (fun hb54 => ?_)
              · skip
                iterate 20 refine AwSch.take (Yd.val hT rfl rfl) ?_
                first | refine AwSch.say (t := 74) (B := sc (.bool (adw2 a b i1))) rfl (by rw [adw2, ← adw_ix]; rfl) ?_ | skip
                refine AwSch.take (Yd.val hT rfl rfl) ?_
                refine AwSch.take (Yd.val hT rfl rfl) ?_
                repeat (first | refine AwOps.nil ?_ | refine AwSch.nil ?_ | refine Aw.seq ?_ | refine Aw.region ?_ | refine Aw.block ?_ | refine Aw.skip ?_ | refine Aw.exit ?_ | refine Aw.condT rfl ?_ | refine Aw.condF rfl ?_)
                refine AwOps.v hT rfl ?_
                repeat (first | refine AwOps.nil ?_ | refine AwSch.nil ?_ | refine Aw.seq ?_ | refine Aw.region ?_ | refine Aw.block ?_ | refine Aw.skip ?_ | refine Aw.exit ?_ | refine Aw.condT rfl ?_ | refine Aw.condF rfl ?_)
                refine Aw.ret ?_
                refine ⟨_, [], rfl, trivial, ?_⟩
                exact scb (by rw [addrWithinB, all_miss hlt1 (by simp only [show (adw1 a b i1) = true from hb54, hw, Bool.true_and, Bool.false_and, Bool.true_or, Bool.false_or, Bool.or_true, Bool.and_true, Bool.or_false, Bool.and_false, Bool.not_true, Bool.not_false])]; simp)
              · skip
                iterate 7 refine AwSch.take (Yd.val hT rfl rfl) ?_
                first | refine AwSch.nm 61 rfl (by omega) (by omega) ?_ | skip
                refine AwSch.take (Yd.byte hT rfl (by omega) (by omega)) ?_
                iterate 4 refine AwSch.take (Yd.val hT rfl rfl) ?_
                first | refine AwSch.nm 66 rfl (by omega) (by omega) ?_ | skip
                refine AwSch.take (Yd.byte hT rfl (by omega) (by omega)) ?_
                refine AwSch.take (Yd.bin rfl _ rfl andK_run) ?_
                iterate 4 refine AwSch.take (Yd.val hT rfl rfl) ?_
                first | refine AwSch.nm 72 rfl (by omega) (by omega) ?_ | skip
                refine AwSch.take (Yd.byte hT rfl (by omega) (by omega)) ?_
                refine AwSch.take (Yd.val hT rfl rfl) ?_
                first | refine AwSch.say (t := 74) (B := sc (.bool (adw2 a b i1))) rfl (by rw [adw2, ← adw_ix]; rfl) ?_ | skip
                refine AwSch.take (Yd.val hT rfl rfl) ?_
                refine AwSch.take (Yd.val hT rfl rfl) ?_
                repeat (first | refine AwOps.nil ?_ | refine AwSch.nil ?_ | refine Aw.seq ?_ | refine Aw.region ?_ | refine Aw.block ?_ | refine Aw.skip ?_ | refine Aw.exit ?_ | refine Aw.condT rfl ?_ | refine Aw.condF rfl ?_)
                refine Aw.tst rfl (fun hb76 => ?_) (fun hb76 => ?_)
                · skip
                  repeat (first | refine AwOps.nil ?_ | refine AwSch.nil ?_ | refine Aw.seq ?_ | refine Aw.region ?_ | refine Aw.block ?_ | refine Aw.skip ?_ | refine Aw.exit ?_ | refine Aw.condT rfl ?_ | refine Aw.condF rfl ?_)
                  refine AwOps.v hT rfl ?_
                  repeat (first | refine AwOps.nil ?_ | refine AwSch.nil ?_ | refine Aw.seq ?_ | refine Aw.region ?_ | refine Aw.block ?_ | refine Aw.skip ?_ | refine Aw.exit ?_ | refine Aw.condT rfl ?_ | refine Aw.condF rfl ?_)
                  refine Aw.ret ?_
                  refine ⟨_, [], rfl, trivial, ?_⟩
                  exact scb (by rw [addrWithinB, all_miss hlt1 (by simp only [show (adw1 a b i1) = false from hb54, show (adw2 a b i1) = true from hb76, hw, Bool.true_and, Bool.false_and, Bool.true_or, Bool.false_or, Bool.or_true, Bool.and_true, Bool.or_false, Bool.and_false, Bool.not_true, Bool.not_false])]; simp)
                · skip
                  repeat (first | refine AwOps.nil ?_ | refine AwSch.nil ?_ | refine Aw.seq ?_ | refine Aw.region ?_ | refine Aw.block ?_ | refine Aw.skip ?_ | refine Aw.exit ?_ | refine Aw.condT rfl ?_ | refine Aw.condF rfl ?_)
                  iterate 3 refine AwOps.v hT rfl ?_
                  repeat (first | refine AwOps.nil ?_ | refine AwSch.nil ?_ | refine Aw.seq ?_ | refine Aw.region ?_ | refine Aw.block ?_ | refine Aw.skip ?_ | refine Aw.exit ?_ | refine Aw.condT rfl ?_ | refine Aw.condF rfl ?_)
                  refine ⟨(i1 + 1), ?nx1, ?mu1, Less.tn ⟨rfl, ⟨incS hlt1 hB1, rfl, rfl, rfl, rfl, trivial⟩, trivial⟩⟩
                  case nx1 =>
                    try dsimp only
                    exact ⟨hlt1, all_next hi1.2 (by simp only [show (adw1 a b i1) = false from hb54, show (adw2 a b i1) = false from hb76, hw, Bool.true_and, Bool.false_and, Bool.true_or, Bool.false_or, Bool.or_true, Bool.and_true, Bool.or_false, Bool.and_false, Bool.not_true, Bool.not_false])⟩
                  case mu1 =>
                    try dsimp only
                    first | omega | (simp only [w64] at *; omega) | (simp [w64] at *; omega)
            · skip
              repeat (first | refine AwOps.nil ?_ | refine AwSch.nil ?_ | refine Aw.seq ?_ | refine Aw.region ?_ | refine Aw.block ?_ | refine Aw.skip ?_ | refine Aw.exit ?_ | refine Aw.condT rfl ?_ | refine Aw.condF rfl ?_)
              refine AwOps.v hT rfl ?_
              repeat (first | refine AwOps.nil ?_ | refine AwSch.nil ?_ | refine Aw.seq ?_ | refine Aw.region ?_ | refine Aw.block ?_ | refine Aw.skip ?_ | refine Aw.exit ?_ | refine Aw.condT rfl ?_ | refine Aw.condF rfl ?_)
              refine Aw.ret ?_
              refine ⟨_, [], rfl, trivial, ?_⟩
              exact scb (by rw [addrWithinB, hr, rall_full hi1.2 (by have := of_decide_eq_false hb38; simp; omega) hi1.1]; simp only [show (!rangeB a) = false from hb28, show ((a.size : Int) != (b.size : Int)) = false from hb35, hw, Bool.true_and, Bool.false_and, Bool.true_or, Bool.false_or, Bool.or_true, Bool.and_true, Bool.or_false, Bool.and_false, Bool.not_true, Bool.not_false])
def withinG (g b : Gn) : Bool := !(g.kind != b.kind) && if g.kind == 1 then mailWithinB g.text b.text else if g.kind == 2 then dnsWithinB g.text b.text else if g.kind == 4 then nwithin g.name b.name else if g.kind == 7 then addrWithinB g.text b.text else false
def inG (g : Gn) (l : List Gn) : Bool := l.any fun b => withinG g b
def limG (l : List Gn) (k : Int) : Bool := l.any fun b => b.kind == k
def noG (g : Gn) (s : Sub) : Bool := inG g s.x || (limG s.p g.kind && !inG g s.p)
def permS (l : List Sub) (g : Gn) : Bool := l.all fun s => !noG g s
theorem anyt_step {α : Type} {p : α → Bool} {l : List α} {i : Nat} (hi : i < l.length) (h : (l.take i).any p = false) (hx : p l[i] = false) : (l.take (i + 1)).any p = false := any_take hi h hx
theorem any_full {α : Type} {p : α → Bool} {l : List α} {i : Nat} (h : (l.take i).any p = false) (hi : decide ((i : Int) < (l.length : Nat)) = false) : l.any p = false := by
  have : l.length ≤ i := by have := of_decide_eq_false hi; omega
  rwa [List.take_of_length_le this] at h
-- f134 certpath/certpathref07.WithinGeneral
theorem F134 (g b : Gn) (hg : okG g) (hb : okG b) : Fn Tryz.prog 55 [.pv (.agg (eGn g)), .pv (.agg (eGn b))] [] (fun r _ => r = sc (.bool (withinG g b))) := by
  refine Fn.intro (rs := [.tmp 4]) hT Tryz.func55 (by kernel_rfl) rfl rfl rfl rfl fun C => ?_
  repeat (first | refine AwOps.nil ?_ | refine AwSch.nil ?_ | refine Aw.seq ?_ | refine Aw.region ?_ | refine Aw.block ?_ | refine Aw.skip ?_ | refine Aw.exit ?_ | refine Aw.condT rfl ?_ | refine Aw.condF rfl ?_)
  refine AwOps.eff hT rfl ?_
  refine AwOps.eff hT rfl ?_
  refine AwOps.v hT rfl ?_
  repeat (first | refine AwOps.nil ?_ | refine AwSch.nil ?_ | refine Aw.seq ?_ | refine Aw.region ?_ | refine Aw.block ?_ | refine Aw.skip ?_ | refine Aw.exit ?_ | refine Aw.condT rfl ?_ | refine Aw.condF rfl ?_)
  iterate 5 refine AwOps.v hT rfl ?_
  repeat (first | refine AwOps.nil ?_ | refine AwSch.nil ?_ | refine Aw.seq ?_ | refine Aw.region ?_ | refine Aw.block ?_ | refine Aw.skip ?_ | refine Aw.exit ?_ | refine Aw.condT rfl ?_ | refine Aw.condF rfl ?_)
  refine Aw.tst rfl (fun hb9 => ?_) (fun hb9 => ?_)
  · skip
    repeat (first | refine AwOps.nil ?_ | refine AwSch.nil ?_ | refine Aw.seq ?_ | refine Aw.region ?_ | refine Aw.block ?_ | refine Aw.skip ?_ | refine Aw.exit ?_ | refine Aw.condT rfl ?_ | refine Aw.condF rfl ?_)
    refine AwOps.v hT rfl ?_
    repeat (first | refine AwOps.nil ?_ | refine AwSch.nil ?_ | refine Aw.seq ?_ | refine Aw.region ?_ | refine Aw.block ?_ | refine Aw.skip ?_ | refine Aw.exit ?_ | refine Aw.condT rfl ?_ | refine Aw.condF rfl ?_)
    refine Aw.ret ?_
    refine ⟨_, [], rfl, trivial, ?_⟩
    exact scb (by rw [withinG]; simp only [show (g.kind != b.kind) = true from hb9, if_true, if_false, Bool.false_eq_true, Bool.true_and, Bool.false_and, Bool.true_or, Bool.false_or, Bool.or_true, Bool.and_true, Bool.or_false, Bool.and_false, Bool.not_true, Bool.not_false] <;> first | done | rfl | (simp; done))
  · skip
    repeat (first | refine AwOps.nil ?_ | refine AwSch.nil ?_ | refine Aw.seq ?_ | refine Aw.region ?_ | refine Aw.block ?_ | refine Aw.skip ?_ | refine Aw.exit ?_ | refine Aw.condT rfl ?_ | refine Aw.condF rfl ?_)
    refine AwOps.v hT rfl ?_
    refine AwOps.v hT rfl ?_
    repeat (first | refine AwOps.nil ?_ | refine AwSch.nil ?_ | refine Aw.seq ?_ | refine Aw.region ?_ | refine Aw.block ?_ | refine Aw.skip ?_ | refine Aw.exit ?_ | refine Aw.condT rfl ?_ | refine Aw.condF rfl ?_)
    refine AwOps.v hT rfl ?_
    refine AwOps.v hT rfl ?_
    repeat (first | refine AwOps.nil ?_ | refine AwSch.nil ?_ | refine Aw.seq ?_ | refine Aw.region ?_ | refine Aw.block ?_ | refine Aw.skip ?_ | refine Aw.exit ?_ | refine Aw.condT rfl ?_ | refine Aw.condF rfl ?_)
    refine Aw.tst rfl (fun hb12 => ?_) (fun hb12 => ?_)
    · skip
      repeat (first | refine AwOps.nil ?_ | refine AwSch.nil ?_ | refine Aw.seq ?_ | refine Aw.region ?_ | refine Aw.block ?_ | refine Aw.skip ?_ | refine Aw.exit ?_ | refine Aw.condT rfl ?_ | refine Aw.condF rfl ?_)
      iterate 4 refine AwOps.v hT rfl ?_
      refine AwOps.cl (F135 _ _ (by have := hg.1; have := hb.1; unfold okS at *; omega) (by have := hg.1; have := hb.1; unfold okS at *; omega)) [] rfl ⟨⟨rfl, rfl⟩, ⟨rfl, rfl⟩, trivial⟩ trivial rfl ?_   -- certpathref07.MailWithin
      rintro _ _ rfl
      refine AwOps.v hT rfl ?_
      repeat (first | refine AwOps.nil ?_ | refine AwSch.nil ?_ | refine Aw.seq ?_ | refine Aw.region ?_ | refine Aw.block ?_ | refine Aw.skip ?_ | refine Aw.exit ?_ | refine Aw.condT rfl ?_ | refine Aw.condF rfl ?_)
      refine Aw.ret ?_
      refine ⟨_, [], rfl, trivial, ?_⟩
      exact scb (by rw [withinG]; simp only [show (g.kind != b.kind) = false from hb9, show (g.kind == 1) = true from hb12, if_true, if_false, Bool.false_eq_true, Bool.true_and, Bool.false_and, Bool.true_or, Bool.false_or, Bool.or_true, Bool.and_true, Bool.or_false, Bool.and_false, Bool.not_true, Bool.not_false] <;> first | done | rfl | (simp; done))
    · skip
      repeat (first | refine AwOps.nil ?_ | refine AwSch.nil ?_ | refine Aw.seq ?_ | refine Aw.region ?_ | refine Aw.block ?_ | refine Aw.skip ?_ | refine Aw.exit ?_ | refine Aw.condT rfl ?_ | refine Aw.condF rfl ?_)
      refine AwOps.v hT rfl ?_
      refine AwOps.v hT rfl ?_
      repeat (first | refine AwOps.nil ?_ | refine AwSch.nil ?_ | refine Aw.seq ?_ | refine Aw.region ?_ | refine Aw.block ?_ | refine Aw.skip ?_ | refine Aw.exit ?_ | refine Aw.condT rfl ?_ | refine Aw.condF rfl ?_)
      refine Aw.tst rfl (fun hb19 => ?_) (fun hb19 => ?_)
      · skip
        repeat (first | refine AwOps.nil ?_ | refine AwSch.nil ?_ | refine Aw.seq ?_ | refine Aw.region ?_ | refine Aw.block ?_ | refine Aw.skip ?_ | refine Aw.exit ?_ | refine Aw.condT rfl ?_ | refine Aw.condF rfl ?_)
        iterate 4 refine AwOps.v hT rfl ?_
        refine AwOps.cl (F136 _ _ (by have := hg.1; have := hb.1; unfold okS at *; omega) (by have := hg.1; have := hb.1; unfold okS at *; omega)) [] rfl ⟨⟨rfl, rfl⟩, ⟨rfl, rfl⟩, trivial⟩ trivial rfl ?_   -- certpathref07.DNSWithin
        rintro _ _ rfl
        refine AwOps.v hT rfl ?_
        repeat (first | refine AwOps.nil ?_ | refine AwSch.nil ?_ | refine Aw.seq ?_ | refine Aw.region ?_ | refine Aw.block ?_ | refine Aw.skip ?_ | refine Aw.exit ?_ | refine Aw.condT rfl ?_ | refine Aw.condF rfl ?_)
        refine Aw.ret ?_
        refine ⟨_, [], rfl, trivial, ?_⟩
        exact scb (by rw [withinG]; simp only [show (g.kind != b.kind) = false from hb9, show (g.kind == 1) = false from hb12, show (g.kind == 2) = true from hb19, if_true, if_false, Bool.false_eq_true, Bool.true_and, Bool.false_and, Bool.true_or, Bool.false_or, Bool.or_true, Bool.and_true, Bool.or_false, Bool.and_false, Bool.not_true, Bool.not_false] <;> first | done | rfl | (simp; done))
      · skip
        repeat (first | refine AwOps.nil ?_ | refine AwSch.nil ?_ | refine Aw.seq ?_ | refine Aw.region ?_ | refine Aw.block ?_ | refine Aw.skip ?_ | refine Aw.exit ?_ | refine Aw.condT rfl ?_ | refine Aw.condF rfl ?_)
        refine AwOps.v hT rfl ?_
        refine AwOps.v hT rfl ?_
        repeat (first | refine AwOps.nil ?_ | refine AwSch.nil ?_ | refine Aw.seq ?_ | refine Aw.region ?_ | refine Aw.block ?_ | refine Aw.skip ?_ | refine Aw.exit ?_ | refine Aw.condT rfl ?_ | refine Aw.condF rfl ?_)
        refine Aw.tst rfl (fun hb26 => ?_) (fun hb26 => ?_)
        · skip
          repeat (first | refine AwOps.nil ?_ | refine AwSch.nil ?_ | refine Aw.seq ?_ | refine Aw.region ?_ | refine Aw.block ?_ | refine Aw.skip ?_ | refine Aw.exit ?_ | refine Aw.condT rfl ?_ | refine Aw.condF rfl ?_)
          iterate 4 refine AwOps.v hT rfl ?_
          refine AwOps.cl (WithinName_ok _ _ hg.2.1 hb.2.1) [] rfl ⟨⟨rfl, rfl⟩, ⟨rfl, rfl⟩, trivial⟩ trivial rfl ?_   -- certpathref07.WithinName
          rintro _ _ rfl
          refine AwOps.v hT rfl ?_
          repeat (first | refine AwOps.nil ?_ | refine AwSch.nil ?_ | refine Aw.seq ?_ | refine Aw.region ?_ | refine Aw.block ?_ | refine Aw.skip ?_ | refine Aw.exit ?_ | refine Aw.condT rfl ?_ | refine Aw.condF rfl ?_)
          refine Aw.ret ?_
          refine ⟨_, [], rfl, trivial, ?_⟩
          exact scb (by rw [withinG]; simp only [show (g.kind != b.kind) = false from hb9, show (g.kind == 1) = false from hb12, show (g.kind == 2) = false from hb19, show (g.kind == 4) = true from hb26, if_true, if_false, Bool.false_eq_true, Bool.true_and, Bool.false_and, Bool.true_or, Bool.false_or, Bool.or_true, Bool.and_true, Bool.or_false, Bool.and_false, Bool.not_true, Bool.not_false] <;> first | done | rfl | (simp; done))
        · skip
          repeat (first | refine AwOps.nil ?_ | refine AwSch.nil ?_ | refine Aw.seq ?_ | refine Aw.region ?_ | refine Aw.block ?_ | refine Aw.skip ?_ | refine Aw.exit ?_ | refine Aw.condT rfl ?_ | refine Aw.condF rfl ?_)
          refine AwOps.v hT rfl ?_
          refine AwOps.v hT rfl ?_
          repeat (first | refine AwOps.nil ?_ | refine AwSch.nil ?_ | refine Aw.seq ?_ | refine Aw.region ?_ | refine Aw.block ?_ | refine Aw.skip ?_ | refine Aw.exit ?_ | refine Aw.condT rfl ?_ | refine Aw.condF rfl ?_)
          refine Aw.tst rfl (fun hb33 => ?_) (fun hb33 => ?_)
          · skip
            repeat (first | refine AwOps.nil ?_ | refine AwSch.nil ?_ | refine Aw.seq ?_ | refine Aw.region ?_ | refine Aw.block ?_ | refine Aw.skip ?_ | refine Aw.exit ?_ | refine Aw.condT rfl ?_ | refine Aw.condF rfl ?_)
            iterate 4 refine AwOps.v hT rfl ?_
            refine AwOps.cl (F137 _ _ (by have := hg.1; have := hb.1; unfold okS at *; omega) (by have := hg.1; have := hb.1; unfold okS at *; omega)) [] rfl ⟨⟨rfl, rfl⟩, ⟨rfl, rfl⟩, trivial⟩ trivial rfl ?_   -- certpathref07.AddressWithin
            rintro _ _ rfl
            refine AwOps.v hT rfl ?_
            repeat (first | refine AwOps.nil ?_ | refine AwSch.nil ?_ | refine Aw.seq ?_ | refine Aw.region ?_ | refine Aw.block ?_ | refine Aw.skip ?_ | refine Aw.exit ?_ | refine Aw.condT rfl ?_ | refine Aw.condF rfl ?_)
            refine Aw.ret ?_
            refine ⟨_, [], rfl, trivial, ?_⟩
            exact scb (by rw [withinG]; simp only [show (g.kind != b.kind) = false from hb9, show (g.kind == 1) = false from hb12, show (g.kind == 2) = false from hb19, show (g.kind == 4) = false from hb26, show (g.kind == 7) = true from hb33, if_true, if_false, Bool.false_eq_true, Bool.true_and, Bool.false_and, Bool.true_or, Bool.false_or, Bool.or_true, Bool.and_true, Bool.or_false, Bool.and_false, Bool.not_true, Bool.not_false] <;> first | done | rfl | (simp; done))
          · skip
            repeat (first | refine AwOps.nil ?_ | refine AwSch.nil ?_ | refine Aw.seq ?_ | refine Aw.region ?_ | refine Aw.block ?_ | refine Aw.skip ?_ | refine Aw.exit ?_ | refine Aw.condT rfl ?_ | refine Aw.condF rfl ?_)
            refine AwOps.v hT rfl ?_
            repeat (first | refine AwOps.nil ?_ | refine AwSch.nil ?_ | refine Aw.seq ?_ | refine Aw.region ?_ | refine Aw.block ?_ | refine Aw.skip ?_ | refine Aw.exit ?_ | refine Aw.condT rfl ?_ | refine Aw.condF rfl ?_)
            refine Aw.ret ?_
            refine ⟨_, [], rfl, trivial, ?_⟩
            exact scb (by rw [withinG]; simp only [show (g.kind != b.kind) = false from hb9, show (g.kind == 1) = false from hb12, show (g.kind == 2) = false from hb19, show (g.kind == 4) = false from hb26, show (g.kind == 7) = false from hb33, if_true, if_false, Bool.false_eq_true, Bool.true_and, Bool.false_and, Bool.true_or, Bool.false_or, Bool.or_true, Bool.and_true, Bool.or_false, Bool.and_false, Bool.not_true, Bool.not_false] <;> first | done | rfl | (simp; done))
-- f133 certpath/certpathref07.limits
theorem F133 (l : List Gn) (k : Int) : Fn Tryz.prog 35 [.pv (.one (.p (.sl (l.map eGn)))), .pv (sc (.int .i64 k))] [] (fun r _ => r = sc (.bool (limG l k))) := by
  refine Fn.intro (rs := [.tmp 4]) hT Tryz.func35 (by kernel_rfl) rfl rfl rfl rfl fun C => ?_
  repeat (first | refine AwOps.nil ?_ | refine AwSch.nil ?_ | refine Aw.seq ?_ | refine Aw.region ?_ | refine Aw.block ?_ | refine Aw.skip ?_ | refine Aw.exit ?_ | refine Aw.condT rfl ?_ | refine Aw.condF rfl ?_)
  refine AwOps.v hT rfl ?_
  repeat (first | refine AwOps.nil ?_ | refine AwSch.nil ?_ | refine Aw.seq ?_ | refine Aw.region ?_ | refine Aw.block ?_ | refine Aw.skip ?_ | refine Aw.exit ?_ | refine Aw.condT rfl ?_ | refine Aw.condF rfl ?_)
  iterate 3 refine AwOps.v hT rfl ?_
  repeat (first | refine AwOps.nil ?_ | refine AwSch.nil ?_ | refine Aw.seq ?_ | refine Aw.region ?_ | refine Aw.block ?_ | refine Aw.skip ?_ | refine Aw.exit ?_ | refine Aw.condT rfl ?_ | refine Aw.condF rfl ?_)
  refine Aw.bnd 7 rfl fun hB1 => ?_
  replace hB1 : l.length ≤ maxLen := by simpa using hB1
  repeat (first | refine AwOps.nil ?_ | refine AwSch.nil ?_ | refine Aw.seq ?_ | refine Aw.region ?_ | refine Aw.block ?_ | refine Aw.skip ?_ | refine Aw.exit ?_ | refine Aw.condT rfl ?_ | refine Aw.condF rfl ?_)
  refine Aw.lp (ι := Nat) (n := 18) [(1, _), (7, _), (8, _)] [] (fun gq => [(9, sc (.int .i64 gq))]) (fun gq => []) (fun gq => gq ≤ l.length ∧ ((l.take gq).any (fun b => b.kind == k) = false)) (fun gq => l.length - gq) (0) ?ok1 (Less.tn ⟨rfl, ⟨rfl, rfl, rfl, rfl, trivial⟩, trivial⟩) ?bd1
  case ok1 =>
    try dsimp only
    exact ⟨Nat.zero_le _, rfl⟩
  case bd1 =>
    intro i1 hi1
    try dsimp only at hi1
    show Aw _ _ _ ⟨18, [(9, sc (.int .i64 i1))] ++ [(1, _), (7, _), (8, _)], [] ++ []⟩ _
    repeat (first | refine AwOps.nil ?_ | refine AwSch.nil ?_ | refine Aw.seq ?_ | refine Aw.region ?_ | refine Aw.block ?_ | refine Aw.skip ?_ | refine Aw.exit ?_ | refine Aw.condT rfl ?_ | refine Aw.condF rfl ?_)
    refine AwOps.v hT rfl ?_
    repeat (first | refine AwOps.nil ?_ | refine AwSch.nil ?_ | refine Aw.seq ?_ | refine Aw.region ?_ | refine Aw.block ?_ | refine Aw.skip ?_ | refine Aw.exit ?_ | refine Aw.condT rfl ?_ | refine Aw.condF rfl ?_)
    refine Aw.tst rfl (fun hb10 => ?_) (fun hb10 => ?_)
    · skip
      have hlt1 : i1 < l.length := by simpa using hb10
      repeat (first | refine AwOps.nil ?_ | refine AwSch.nil ?_ | refine Aw.seq ?_ | refine Aw.region ?_ | refine Aw.block ?_ | refine Aw.skip ?_ | refine Aw.exit ?_ | refine Aw.condT rfl ?_ | refine Aw.condF rfl ?_)
      refine AwOps.im hT rfl hlt1 rfl ?_
      refine AwOps.v hT rfl ?_
      refine AwOps.eff hT rfl ?_
      refine AwOps.eff hT rfl ?_
      repeat (first | refine AwOps.nil ?_ | refine AwSch.nil ?_ | refine Aw.seq ?_ | refine Aw.region ?_ | refine Aw.block ?_ | refine Aw.skip ?_ | refine Aw.exit ?_ | refine Aw.condT rfl ?_ | refine Aw.condF rfl ?_)
      iterate 4 refine AwOps.v hT rfl ?_
      repeat (first | refine AwOps.nil ?_ | refine AwSch.nil ?_ | refine Aw.seq ?_ | refine Aw.region ?_ | refine Aw.block ?_ | refine Aw.skip ?_ | refine Aw.exit ?_ | refine Aw.condT rfl ?_ | refine Aw.condF rfl ?_)
      refine Aw.tst rfl (fun hb16 => ?_) (fun hb16 => ?_)
      · skip
        repeat (first | refine AwOps.nil ?_ | refine AwSch.nil ?_ | refine Aw.seq ?_ | refine Aw.region ?_ | refine Aw.block ?_ | refine Aw.skip ?_ | refine Aw.exit ?_ | refine Aw.condT rfl ?_ | refine Aw.condF rfl ?_)
        refine AwOps.v hT rfl ?_
        repeat (first | refine AwOps.nil ?_ | refine AwSch.nil ?_ | refine Aw.seq ?_ | refine Aw.region ?_ | refine Aw.block ?_ | refine Aw.skip ?_ | refine Aw.exit ?_ | refine Aw.condT rfl ?_ | refine Aw.condF rfl ?_)
        refine Aw.ret ?_
        refine ⟨_, [], rfl, trivial, ?_⟩
        exact scb (any_hit hlt1 hb16).symm
      · skip
        repeat (first | refine AwOps.nil ?_ | refine AwSch.nil ?_ | refine Aw.seq ?_ | refine Aw.region ?_ | refine Aw.block ?_ | refine Aw.skip ?_ | refine Aw.exit ?_ | refine Aw.condT rfl ?_ | refine Aw.condF rfl ?_)
        refine AwOps.v hT rfl ?_
        refine AwOps.v hT rfl ?_
        repeat (first | refine AwOps.nil ?_ | refine AwSch.nil ?_ | refine Aw.seq ?_ | refine Aw.region ?_ | refine Aw.block ?_ | refine Aw.skip ?_ | refine Aw.exit ?_ | refine Aw.condT rfl ?_ | refine Aw.condF rfl ?_)
        refine ⟨(i1 + 1), ?nx1, ?mu1, Less.tn ⟨rfl, ⟨incS hlt1 hB1, rfl, rfl, rfl, trivial⟩, trivial⟩⟩
        case nx1 =>
          try dsimp only
          exact ⟨hlt1, anyt_step hlt1 hi1.2 hb16⟩
        case mu1 =>
          try dsimp only
          first | omega | (simp only [w64] at *; omega) | (simp [w64] at *; omega)
    · skip
      repeat (first | refine AwOps.nil ?_ | refine AwSch.nil ?_ | refine Aw.seq ?_ | refine Aw.region ?_ | refine Aw.block ?_ | refine Aw.skip ?_ | refine Aw.exit ?_ | refine Aw.condT rfl ?_ | refine Aw.condF rfl ?_)
      refine AwOps.v hT rfl ?_
      repeat (first | refine AwOps.nil ?_ | refine AwSch.nil ?_ | refine Aw.seq ?_ | refine Aw.region ?_ | refine Aw.block ?_ | refine Aw.skip ?_ | refine Aw.exit ?_ | refine Aw.condT rfl ?_ | refine Aw.condF rfl ?_)
      refine Aw.ret ?_
      refine ⟨_, [], rfl, trivial, ?_⟩
      exact scb (any_full hi1.2 (by simpa using hb10)).symm
-- f132 certpath/certpathref07.In
theorem F132 (g : Gn) (l : List Gn) (hg : okG g) (hl : okGs l) : Fn Tryz.prog 34 [.pv (.agg (eGn g)), .pv (.one (.p (.sl (l.map eGn))))] [] (fun r _ => r = sc (.bool (inG g l))) := by
  refine Fn.intro (rs := [.tmp 4]) hT Tryz.func34 (by kernel_rfl) rfl rfl rfl rfl fun C => ?_
  repeat (first | refine AwOps.nil ?_ | refine AwSch.nil ?_ | refine Aw.seq ?_ | refine Aw.region ?_ | refine Aw.block ?_ | refine Aw.skip ?_ | refine Aw.exit ?_ | refine Aw.condT rfl ?_ | refine Aw.condF rfl ?_)
  refine AwOps.eff hT rfl ?_
  refine AwOps.v hT rfl ?_
  repeat (first | refine AwOps.nil ?_ | refine AwSch.nil ?_ | refine Aw.seq ?_ | refine Aw.region ?_ | refine Aw.block ?_ | refine Aw.skip ?_ | refine Aw.exit ?_ | refine Aw.condT rfl ?_ | refine Aw.condF rfl ?_)
  iterate 3 refine AwOps.v hT rfl ?_
  repeat (first | refine AwOps.nil ?_ | refine AwSch.nil ?_ | refine Aw.seq ?_ | refine Aw.region ?_ | refine Aw.block ?_ | refine Aw.skip ?_ | refine Aw.exit ?_ | refine Aw.condT rfl ?_ | refine Aw.condF rfl ?_)
  refine Aw.bnd 7 rfl fun hB1 => ?_
  replace hB1 : l.length ≤ maxLen := by simpa using hB1
  repeat (first | refine AwOps.nil ?_ | refine AwSch.nil ?_ | refine Aw.seq ?_ | refine Aw.region ?_ | refine Aw.block ?_ | refine Aw.skip ?_ | refine Aw.exit ?_ | refine Aw.condT rfl ?_ | refine Aw.condF rfl ?_)
  refine Aw.lp (ι := Nat) (n := 17) [(2, _), (7, _), (8, _)] [(2, _)] (fun gq => [(9, sc (.int .i64 gq))]) (fun gq => []) (fun gq => gq ≤ l.length ∧ ((l.take gq).any (fun b => withinG g b) = false)) (fun gq => l.length - gq) (0) ?ok1 (Less.tn ⟨rfl, ⟨rfl, rfl, rfl, rfl, trivial⟩, ⟨rfl, trivial⟩⟩) ?bd1
  case ok1 =>
    try dsimp only
    exact ⟨Nat.zero_le _, rfl⟩
  case bd1 =>
    intro i1 hi1
    try dsimp only at hi1
    show Aw _ _ _ ⟨17, [(9, sc (.int .i64 i1))] ++ [(2, _), (7, _), (8, _)], [] ++ [(2, _)]⟩ _
    repeat (first | refine AwOps.nil ?_ | refine AwSch.nil ?_ | refine Aw.seq ?_ | refine Aw.region ?_ | refine Aw.block ?_ | refine Aw.skip ?_ | refine Aw.exit ?_ | refine Aw.condT rfl ?_ | refine Aw.condF rfl ?_)
    refine AwOps.v hT rfl ?_
    repeat (first | refine AwOps.nil ?_ | refine AwSch.nil ?_ | refine Aw.seq ?_ | refine Aw.region ?_ | refine Aw.block ?_ | refine Aw.skip ?_ | refine Aw.exit ?_ | refine Aw.condT rfl ?_ | refine Aw.condF rfl ?_)
    refine Aw.tst rfl (fun hb10 => ?_) (fun hb10 => ?_)
    · skip
      have hlt1 : i1 < l.length := by simpa using hb10
      repeat (first | refine AwOps.nil ?_ | refine AwSch.nil ?_ | refine Aw.seq ?_ | refine Aw.region ?_ | refine Aw.block ?_ | refine Aw.skip ?_ | refine Aw.exit ?_ | refine Aw.condT rfl ?_ | refine Aw.condF rfl ?_)
      refine AwOps.im hT rfl hlt1 rfl ?_
      refine AwOps.v hT rfl ?_
      refine AwOps.eff hT rfl ?_
      refine AwOps.eff hT rfl ?_
      repeat (first | refine AwOps.nil ?_ | refine AwSch.nil ?_ | refine Aw.seq ?_ | refine Aw.region ?_ | refine Aw.block ?_ | refine Aw.skip ?_ | refine Aw.exit ?_ | refine Aw.condT rfl ?_ | refine Aw.condF rfl ?_)
      refine AwOps.v hT rfl ?_
      refine AwOps.v hT rfl ?_
      refine AwOps.cl (F134 _ _ hg (hl.2 _ (List.getElem_mem hlt1))) [] rfl ⟨⟨rfl, rfl⟩, ⟨rfl, rfl⟩, trivial⟩ trivial rfl ?_   -- certpathref07.WithinGeneral
      rintro _ _ rfl
      repeat (first | refine AwOps.nil ?_ | refine AwSch.nil ?_ | refine Aw.seq ?_ | refine Aw.region ?_ | refine Aw.block ?_ | refine Aw.skip ?_ | refine Aw.exit ?_ | refine Aw.condT rfl ?_ | refine Aw.condF rfl ?_)
      refine Aw.tst rfl (fun hb15 => ?_) (fun hb15 => ?_)
      · skip
        repeat (first | refine AwOps.nil ?_ | refine AwSch.nil ?_ | refine Aw.seq ?_ | refine Aw.region ?_ | refine Aw.block ?_ | refine Aw.skip ?_ | refine Aw.exit ?_ | refine Aw.condT rfl ?_ | refine Aw.condF rfl ?_)
        refine AwOps.v hT rfl ?_
        repeat (first | refine AwOps.nil ?_ | refine AwSch.nil ?_ | refine Aw.seq ?_ | refine Aw.region ?_ | refine Aw.block ?_ | refine Aw.skip ?_ | refine Aw.exit ?_ | refine Aw.condT rfl ?_ | refine Aw.condF rfl ?_)
        refine Aw.ret ?_
        refine ⟨_, [], rfl, trivial, ?_⟩
        exact scb (any_hit hlt1 hb15).symm
      · skip
        repeat (first | refine AwOps.nil ?_ | refine AwSch.nil ?_ | refine Aw.seq ?_ | refine Aw.region ?_ | refine Aw.block ?_ | refine Aw.skip ?_ | refine Aw.exit ?_ | refine Aw.condT rfl ?_ | refine Aw.condF rfl ?_)
        refine AwOps.v hT rfl ?_
        refine AwOps.v hT rfl ?_
        repeat (first | refine AwOps.nil ?_ | refine AwSch.nil ?_ | refine Aw.seq ?_ | refine Aw.region ?_ | refine Aw.block ?_ | refine Aw.skip ?_ | refine Aw.exit ?_ | refine Aw.condT rfl ?_ | refine Aw.condF rfl ?_)
        refine ⟨(i1 + 1), ?nx1, ?mu1, Less.tn ⟨rfl, ⟨incS hlt1 hB1, rfl, rfl, rfl, trivial⟩, ⟨rfl, trivial⟩⟩⟩
        case nx1 =>
          try dsimp only
          exact ⟨hlt1, anyt_step hlt1 hi1.2 hb15⟩
        case mu1 =>
          try dsimp only
          first | omega | (simp only [w64] at *; omega) | (simp [w64] at *; omega)
    · skip
      repeat (first | refine AwOps.nil ?_ | refine AwSch.nil ?_ | refine Aw.seq ?_ | refine Aw.region ?_ | refine Aw.block ?_ | refine Aw.skip ?_ | refine Aw.exit ?_ | refine Aw.condT rfl ?_ | refine Aw.condF rfl ?_)
      refine AwOps.v hT rfl ?_
      repeat (first | refine AwOps.nil ?_ | refine AwSch.nil ?_ | refine Aw.seq ?_ | refine Aw.region ?_ | refine Aw.block ?_ | refine Aw.skip ?_ | refine Aw.exit ?_ | refine Aw.condT rfl ?_ | refine Aw.condF rfl ?_)
      refine Aw.ret ?_
      refine ⟨_, [], rfl, trivial, ?_⟩
      exact scb (any_full hi1.2 (by simpa using hb10)).symm
-- f131 certpath/certpathref07.Permits
theorem F131 (l : List Sub) (g : Gn) (hg : okG g) (hl : ∀ s ∈ l, okSub s) : Fn Tryz.prog 12 [.pv (.agg (eNSt l)), .pv (.agg (eGn g))] [] (fun r _ => r = sc (.bool (permS l g))) := by
  refine Fn.intro (rs := [.tmp 4]) hT Tryz.func12 (by kernel_rfl) rfl rfl rfl rfl fun C => ?_
  repeat (first | refine AwOps.nil ?_ | refine AwSch.nil ?_ | refine Aw.seq ?_ | refine Aw.region ?_ | refine Aw.block ?_ | refine Aw.skip ?_ | refine Aw.exit ?_ | refine Aw.condT rfl ?_ | refine Aw.condF rfl ?_)
  refine AwOps.eff hT rfl ?_
  refine AwOps.eff hT rfl ?_
  refine AwOps.v hT rfl ?_
  repeat (first | refine AwOps.nil ?_ | refine AwSch.nil ?_ | refine Aw.seq ?_ | refine Aw.region ?_ | refine Aw.block ?_ | refine Aw.skip ?_ | refine Aw.exit ?_ | refine Aw.condT rfl ?_ | refine Aw.condF rfl ?_)
  iterate 4 refine AwOps.v hT rfl ?_
  repeat (first | refine AwOps.nil ?_ | refine AwSch.nil ?_ | refine Aw.seq ?_ | refine Aw.region ?_ | refine Aw.block ?_ | refine Aw.skip ?_ | refine Aw.exit ?_ | refine Aw.condT rfl ?_ | refine Aw.condF rfl ?_)
  refine Aw.bnd 8 rfl fun hB1 => ?_
  replace hB1 : l.length ≤ maxLen := by simpa using hB1
  repeat (first | refine AwOps.nil ?_ | refine AwSch.nil ?_ | refine Aw.seq ?_ | refine Aw.region ?_ | refine Aw.block ?_ | refine Aw.skip ?_ | refine Aw.exit ?_ | refine Aw.condT rfl ?_ | refine Aw.condF rfl ?_)
  refine Aw.lp (ι := Nat) (n := 33) [(3, _), (8, _), (9, _)] [(3, _)] (fun gq => [(10, sc (.int .i64 gq))]) (fun gq => []) (fun gq => gq ≤ l.length ∧ ((l.take gq).all (fun s => !noG g s) = true)) (fun gq => l.length - gq) (0) ?ok1 (Less.tn ⟨rfl, ⟨rfl, rfl, rfl, rfl, trivial⟩, ⟨rfl, trivial⟩⟩) ?bd1
  case ok1 =>
    try dsimp only
    exact ⟨Nat.zero_le _, rfl⟩
  case bd1 =>
    intro i1 hi1
    try dsimp only at hi1
    show Aw _ _ _ ⟨33, [(10, sc (.int .i64 i1))] ++ [(3, _), (8, _), (9, _)], [] ++ [(3, _)]⟩ _
    repeat (first | refine AwOps.nil ?_ | refine AwSch.nil ?_ | refine Aw.seq ?_ | refine Aw.region ?_ | refine Aw.block ?_ | refine Aw.skip ?_ | refine Aw.exit ?_ | refine Aw.condT rfl ?_ | refine Aw.condF rfl ?_)
    refine AwOps.v hT rfl ?_
    repeat (first | refine AwOps.nil ?_ | refine AwSch.nil ?_ | refine Aw.seq ?_ | refine Aw.region ?_ | refine Aw.block ?_ | refine Aw.skip ?_ | refine Aw.exit ?_ | refine Aw.condT rfl ?_ | refine Aw.condF rfl ?_)
    refine Aw.tst rfl (fun hb11 => ?_) (fun hb11 => ?_)
    · skip
      have hlt1 : i1 < l.length := by simpa using hb11
      have hsub := hl _ (List.getElem_mem hlt1)
      have hsp := hsub.1
      have hsx := hsub.2
      repeat (first | refine AwOps.nil ?_ | refine AwSch.nil ?_ | refine Aw.seq ?_ | refine Aw.region ?_ | refine Aw.block ?_ | refine Aw.skip ?_ | refine Aw.exit ?_ | refine Aw.condT rfl ?_ | refine Aw.condF rfl ?_)
      refine AwOps.im hT rfl hlt1 rfl ?_
      refine AwOps.v hT rfl ?_
      refine AwOps.eff hT rfl ?_
      refine AwOps.eff hT rfl ?_
      repeat (first | refine AwOps.nil ?_ | refine AwSch.nil ?_ | refine Aw.seq ?_ | refine Aw.region ?_ | refine Aw.block ?_ | refine Aw.skip ?_ | refine Aw.exit ?_ | refine Aw.condT rfl ?_ | refine Aw.condF rfl ?_)
      iterate 3 refine AwOps.v hT rfl ?_
      refine AwOps.cl (F132 _ _ (by assumption) (by assumption)) [] rfl ⟨⟨rfl, rfl⟩, ⟨rfl, rfl⟩, trivial⟩ trivial rfl ?_   -- certpathref07.In
      rintro _ _ rfl
      refine AwOps.v hT rfl ?_
      refine AwOps.split (t := 18) rfl (fun hb18 => ?_) (fun hb18 => ?_)
      · skip
        iterate 13 refine AwOps.v hT rfl ?_
        repeat (first | refine AwOps.nil ?_ | refine AwSch.nil ?_ | refine Aw.seq ?_ | refine Aw.region ?_ | refine Aw.block ?_ | refine Aw.skip ?_ | refine Aw.exit ?_ | refine Aw.condT rfl ?_ | refine Aw.condF rfl ?_)
        refine AwOps.v hT rfl ?_
        repeat (first | refine AwOps.nil ?_ | refine AwSch.nil ?_ | refine Aw.seq ?_ | refine Aw.region ?_ | refine Aw.block ?_ | refine Aw.skip ?_ | refine Aw.exit ?_ | refine Aw.condT rfl ?_ | refine Aw.condF rfl ?_)
        refine Aw.ret ?_
        refine ⟨_, [], rfl, trivial, ?_⟩
        exact scb (all_bad hlt1 (by simp only [noG]; simp only [show (inG g l[i1].x) = true from hb18, Bool.true_and, Bool.false_and, Bool.true_or, Bool.false_or, Bool.or_true, Bool.and_true, Bool.or_false, Bool.and_false, Bool.not_true, Bool.not_false])).symm
      · skip
        iterate 4 refine AwOps.v hT rfl ?_
        refine AwOps.cl (F133 _ _) [] rfl ⟨⟨rfl, rfl⟩, ⟨rfl, rfl⟩, trivial⟩ trivial rfl ?_   -- certpathref07.limits
        rintro _ _ rfl
        refine AwOps.v hT rfl ?_
        refine AwOps.split (t := 24) rfl (fun hb24 => ?_) (fun hb24 => ?_)
        · skip
          iterate 3 refine AwOps.v hT rfl ?_
          refine AwOps.cl (F132 _ _ (by assumption) (by assumption)) [] rfl ⟨⟨rfl, rfl⟩, ⟨rfl, rfl⟩, trivial⟩ trivial rfl ?_   -- certpathref07.In
          rintro _ _ rfl
          iterate 3 refine AwOps.v hT rfl ?_
          repeat (first | refine AwOps.nil ?_ | refine AwSch.nil ?_ | refine Aw.seq ?_ | refine Aw.region ?_ | refine Aw.block ?_ | refine Aw.skip ?_ | refine Aw.exit ?_ | refine Aw.condT rfl ?_ | refine Aw.condF rfl ?_)
          refine Aw.tst rfl (fun hb31 => ?_) (fun hb31 => ?_)
          · skip
            repeat (first | refine AwOps.nil ?_ | refine AwSch.nil ?_ | refine Aw.seq ?_ | refine Aw.region ?_ | refine Aw.block ?_ | refine Aw.skip ?_ | refine Aw.exit ?_ | refine Aw.condT rfl ?_ | refine Aw.condF rfl ?_)
            refine AwOps.v hT rfl ?_
            repeat (first | refine AwOps.nil ?_ | refine AwSch.nil ?_ | refine Aw.seq ?_ | refine Aw.region ?_ | refine Aw.block ?_ | refine Aw.skip ?_ | refine Aw.exit ?_ | refine Aw.condT rfl ?_ | refine Aw.condF rfl ?_)
            refine Aw.ret ?_
            refine ⟨_, [], rfl, trivial, ?_⟩
            exact scb (all_bad hlt1 (by simp only [noG]; simp only [show (inG g l[i1].x) = false from hb18, show (limG l[i1].p g.kind) = true from hb24, show (!inG g l[i1].p) = true from hb31, Bool.true_and, Bool.false_and, Bool.true_or, Bool.false_or, Bool.or_true, Bool.and_true, Bool.or_false, Bool.and_false, Bool.not_true, Bool.not_false])).symm
          · skip
            repeat (first | refine AwOps.nil ?_ | refine AwSch.nil ?_ | refine Aw.seq ?_ | refine Aw.region ?_ | refine Aw.block ?_ | refine Aw.skip ?_ | refine Aw.exit ?_ | refine Aw.condT rfl ?_ | refine Aw.condF rfl ?_)
            refine AwOps.v hT rfl ?_
            refine AwOps.v hT rfl ?_
            repeat (first | refine AwOps.nil ?_ | refine AwSch.nil ?_ | refine Aw.seq ?_ | refine Aw.region ?_ | refine Aw.block ?_ | refine Aw.skip ?_ | refine Aw.exit ?_ | refine Aw.condT rfl ?_ | refine Aw.condF rfl ?_)
            refine ⟨(i1 + 1), ?nx1, ?mu1, Less.tn ⟨rfl, ⟨incS hlt1 hB1, rfl, rfl, rfl, trivial⟩, ⟨rfl, trivial⟩⟩⟩
            case nx1 =>
              try dsimp only
              exact ⟨hlt1, all_step hlt1 hi1.2 (by simp only [noG]; simp only [show (inG g l[i1].x) = false from hb18, show (limG l[i1].p g.kind) = true from hb24, show (!inG g l[i1].p) = false from hb31, Bool.true_and, Bool.false_and, Bool.true_or, Bool.false_or, Bool.or_true, Bool.and_true, Bool.or_false, Bool.and_false, Bool.not_true, Bool.not_false])⟩
            case mu1 =>
              try dsimp only
              first | omega | (simp only [w64] at *; omega) | (simp [w64] at *; omega)
        · skip
          iterate 7 refine AwOps.v hT rfl ?_
          repeat (first | refine AwOps.nil ?_ | refine AwSch.nil ?_ | refine Aw.seq ?_ | refine Aw.region ?_ | refine Aw.block ?_ | refine Aw.skip ?_ | refine Aw.exit ?_ | refine Aw.condT rfl ?_ | refine Aw.condF rfl ?_)
          refine AwOps.v hT rfl ?_
          refine AwOps.v hT rfl ?_
          repeat (first | refine AwOps.nil ?_ | refine AwSch.nil ?_ | refine Aw.seq ?_ | refine Aw.region ?_ | refine Aw.block ?_ | refine Aw.skip ?_ | refine Aw.exit ?_ | refine Aw.condT rfl ?_ | refine Aw.condF rfl ?_)
          refine ⟨(i1 + 1), ?nx1, ?mu1, Less.tn ⟨rfl, ⟨incS hlt1 hB1, rfl, rfl, rfl, trivial⟩, ⟨rfl, trivial⟩⟩⟩
          case nx1 =>
            try dsimp only
            exact ⟨hlt1, all_step hlt1 hi1.2 (by simp only [noG]; simp only [show (inG g l[i1].x) = false from hb18, show (limG l[i1].p g.kind) = false from hb24, Bool.true_and, Bool.false_and, Bool.true_or, Bool.false_or, Bool.or_true, Bool.and_true, Bool.or_false, Bool.and_false, Bool.not_true, Bool.not_false])⟩
          case mu1 =>
            try dsimp only
            first | omega | (simp only [w64] at *; omega) | (simp [w64] at *; omega)
    · skip
      repeat (first | refine AwOps.nil ?_ | refine AwSch.nil ?_ | refine Aw.seq ?_ | refine Aw.region ?_ | refine Aw.block ?_ | refine Aw.skip ?_ | refine Aw.exit ?_ | refine Aw.condT rfl ?_ | refine Aw.condF rfl ?_)
      refine AwOps.v hT rfl ?_
      repeat (first | refine AwOps.nil ?_ | refine AwSch.nil ?_ | refine Aw.seq ?_ | refine Aw.region ?_ | refine Aw.block ?_ | refine Aw.skip ?_ | refine Aw.exit ?_ | refine Aw.condT rfl ?_ | refine Aw.condF rfl ?_)
      refine Aw.ret ?_
      refine ⟨_, [], rfl, trivial, ?_⟩
      exact scb (all_full hi1.2 (by simpa using hb11)).symm
end Go.Proofs.YthhjfcmkelmobaaGreat.Aw
