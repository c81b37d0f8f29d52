
/- The walks of the comparison of general names: program and reference.
   Conditions: none. -/
import Derived.Test.YtbdgmondalkhlaaDoorWkHostP
namespace Go.Proofs.YtbdgmondalkhlaaDoor.Aw
open Go
set_option maxRecDepth 100000
set_option maxHeartbeats 4000000
set_option linter.unusedSimpArgs false
set_option linter.unusedVariables false

def sameG (a b : Gn) : Bool := !(a.kind != b.kind) && if a.kind == 1 then (if partsOk a.text && partsOk b.text then mailMatchB a.text b.text else alikeB a.text b.text) else if a.kind == 2 then alikeB a.text b.text else if a.kind == 4 then nmatch a.name b.name else if a.kind == 7 then seq a.text b.text else false
def ofK (k : Int) : Int := if k == 1 then 0 else if k == 2 then 1 else if k == 4 then 2 else if k == 7 then 3 else 4
theorem of0 (k : Int) : (ofK k == 0) = (k == 1) := by
  unfold ofK
  repeat' split
  all_goals simp_all
theorem of1 (k : Int) : (ofK k == 1) = (k == 2) := by
  unfold ofK
  repeat' split
  all_goals simp_all
theorem of2 (k : Int) : (ofK k == 2) = (k == 4) := by
  unfold ofK
  repeat' split
  all_goals simp_all
theorem of3 (k : Int) : (ofK k == 3) = (k == 7) := by
  unfold ofK
  repeat' split
  all_goals simp_all
def atS : ByteArray := ⟨#[64]⟩
theorem cutL_sz {s : ByteArray} {n : Nat} (t : List UInt8) (h : s.size ≤ n) : (⟨(Lib.cut s.data.toList t).1.toArray⟩ : ByteArray).size ≤ n := by
  have hlen : s.data.toList.length = s.size := Array.length_toList
  show (Lib.cut s.data.toList t).1.toArray.size ≤ n
  rw [List.size_toArray, Lib.cut]
  split
  · rw [List.length_take]; omega
  · simp only; omega
theorem cutR_sz {s : ByteArray} {n : Nat} (t : List UInt8) (h : s.size ≤ n) : (⟨(Lib.cut s.data.toList t).2.1.toArray⟩ : ByteArray).size ≤ n := by
  have hlen : s.data.toList.length = s.size := Array.length_toList
  show (Lib.cut s.data.toList t).2.1.toArray.size ≤ n
  rw [List.size_toArray, Lib.cut]
  split
  · rw [List.length_drop]; omega
  · simp
-- f188 certpath/host.Mail
theorem F188 (s : ByteArray) (hs : s.size ≤ 1073741824) : Fn Tryd.prog 56 [.pv (sc (.string s))] [] (fun r _ => r = sc (.bool (partsOk s))) := by
  refine Fn.intro (rs := [.tmp 2]) hT Tryd.func56 (by kernel_rfl) rfl rfl rfl rfl fun C => ?_
  refine Aw.seq (Aw.region ?_)
  refine AwOps.v hT rfl ?_
  refine AwOps.nil (Aw.seq (Aw.region ?_))
  refine AwOps.v hT rfl ?_
  refine AwOps.cl (F191 s atS (by first | omega | (simp only [ByteArray.size_extract, ByteArray.size_append, loI, hiI]; omega))) [] rfl ⟨⟨rfl, rfl⟩, ⟨rfl, rfl⟩, trivial⟩ trivial rfl ?_   -- strings.Cut
  rintro _ _ rfl
  iterate 7 refine AwOps.v hT rfl ?_
  refine AwOps.nil (Aw.seq (Aw.region ?_))
  refine AwOps.v hT rfl ?_
  refine AwOps.v hT rfl ?_
  refine AwOps.split (t := 13) rfl (fun hb13 => ?_) (fun hb13 => ?_)
  · skip
    iterate 5 refine AwOps.v hT rfl ?_
    refine AwOps.split (t := 18) rfl (fun hb18 => ?_) (fun hb18 => ?_)
    · skip
      refine AwOps.v hT rfl ?_
      refine AwOps.cl (F192 _ (cutL_sz _ hs)) [] rfl ⟨⟨rfl, rfl⟩, trivial⟩ trivial rfl ?_   -- host.local
      rintro _ _ rfl
      refine AwOps.v hT rfl ?_
      refine AwOps.v hT rfl ?_
      refine AwOps.split (t := 22) rfl (fun hb22 => ?_) (fun hb22 => ?_)
      · skip
        refine AwOps.v hT rfl ?_
        refine AwOps.cl (F193 _ (cutR_sz _ hs)) [] rfl ⟨⟨rfl, rfl⟩, trivial⟩ trivial rfl ?_   -- host.DNS
        rintro _ _ rfl
        refine AwOps.v hT rfl ?_
        refine AwOps.v hT rfl ?_
        refine AwOps.nil ?_
        refine Aw.ret ?_
        refine ⟨_, [], rfl, trivial, ?_⟩
        exact scb (by rw [← mail_eq, hostMailB]; simp only [show ((Lib.cut s.data.toList [64]).2.2) = true from hb13, show (decide ((s.size : Int) ≤ 128)) = true from hb18, show (localB ⟨(Lib.cut s.data.toList [64]).1.toArray⟩) = true from hb22, Bool.true_and, Bool.false_and, Bool.true_or, Bool.false_or, Bool.or_true, Bool.and_true, Bool.or_false, Bool.and_false, Bool.not_true, Bool.not_false] <;> first | done | rfl | (simp; done))
      · skip
        iterate 4 refine AwOps.v hT rfl ?_
        refine AwOps.nil ?_
        refine Aw.ret ?_
        refine ⟨_, [], rfl, trivial, ?_⟩
        exact scb (by rw [← mail_eq, hostMailB]; simp only [show ((Lib.cut s.data.toList [64]).2.2) = true from hb13, show (decide ((s.size : Int) ≤ 128)) = true from hb18, show (localB ⟨(Lib.cut s.data.toList [64]).1.toArray⟩) = false from hb22, Bool.true_and, Bool.false_and, Bool.true_or, Bool.false_or, Bool.or_true, Bool.and_true, Bool.or_false, Bool.and_false, Bool.not_true, Bool.not_false] <;> first | done | rfl | (simp; done))
    · skip
      iterate 8 refine AwOps.v hT rfl ?_
      refine AwOps.nil ?_
      refine Aw.ret ?_
      refine ⟨_, [], rfl, trivial, ?_⟩
      exact scb (by rw [← mail_eq, hostMailB]; simp only [show ((Lib.cut s.data.toList [64]).2.2) = true from hb13, show (decide ((s.size : Int) ≤ 128)) = false from hb18, Bool.true_and, Bool.false_and, Bool.true_or, Bool.false_or, Bool.or_true, Bool.and_true, Bool.or_false, Bool.and_false, Bool.not_true, Bool.not_false] <;> first | done | rfl | (simp; done))
  · skip
    iterate 13 refine AwOps.v hT rfl ?_
    refine AwOps.nil ?_
    refine Aw.ret ?_
    refine ⟨_, [], rfl, trivial, ?_⟩
    exact scb (by rw [← mail_eq, hostMailB]; simp only [show ((Lib.cut s.data.toList [64]).2.2) = false from hb13, Bool.true_and, Bool.false_and, Bool.true_or, Bool.false_or, Bool.or_true, Bool.and_true, Bool.or_false, Bool.and_false, Bool.not_true, Bool.not_false] <;> first | done | rfl | (simp; done))
-- f189 certpath/host.MailMatch
theorem F189 (a b : ByteArray) (ha : a.size ≤ 1073741824) (hb : b.size ≤ 1073741824) : Fn Tryd.prog 57 [.pv (sc (.string a)), .pv (sc (.string b))] [] (fun r _ => r = sc (.bool (mailMatchB a b))) := by
  refine Fn.intro (rs := [.tmp 4]) hT Tryd.func57 (by kernel_rfl) rfl rfl rfl rfl fun C => ?_
  refine Aw.seq (Aw.region ?_)
  refine AwOps.v hT rfl ?_
  refine AwOps.nil (Aw.seq (Aw.seq (Aw.region ?_)))
  refine AwOps.v hT rfl ?_
  refine AwOps.cl (F188 _ (by first | omega | (simp only [ByteArray.size_extract, ByteArray.size_append, loI, hiI]; omega))) [] rfl ⟨⟨rfl, rfl⟩, trivial⟩ trivial rfl ?_   -- host.Mail
  rintro _ _ rfl
  refine AwOps.v hT rfl ?_
  refine AwOps.v hT rfl ?_
  refine AwOps.split (t := 14) rfl (fun hb14 => ?_) (fun hb14 => ?_)
  · skip
    iterate 4 refine AwOps.v hT rfl ?_
    refine AwOps.nil (Aw.condT rfl (Aw.seq (Aw.region ?_)))
    refine AwOps.v hT rfl ?_
    refine AwOps.nil ?_
    refine Aw.ret ?_
    refine ⟨_, [], rfl, trivial, ?_⟩
    exact scb (by rw [mailMatchB]; simp only [show (partsOk a) = false by simpa using hb14, Bool.true_and, Bool.false_and, Bool.true_or, Bool.false_or, Bool.or_true, Bool.and_true, Bool.or_false, Bool.and_false, Bool.not_true, Bool.not_false] <;> first | done | rfl | (simp; done))
  · skip
    refine AwOps.v hT rfl ?_
    refine AwOps.cl (F188 _ (by first | omega | (simp only [ByteArray.size_extract, ByteArray.size_append, loI, hiI]; omega))) [] rfl ⟨⟨rfl, rfl⟩, trivial⟩ trivial rfl ?_   -- host.Mail
    rintro _ _ rfl
    refine AwOps.v hT rfl ?_
    refine AwOps.v hT rfl ?_
    refine AwOps.nil ?_
    refine Aw.tst rfl (fun hb18 => ?_) (fun hb18 => ?_)
    · skip
      refine Aw.seq (Aw.region ?_)
      refine AwOps.v hT rfl ?_
      refine AwOps.nil ?_
      refine Aw.ret ?_
      refine ⟨_, [], rfl, trivial, ?_⟩
      exact scb (by rw [mailMatchB]; simp only [show (partsOk a) = true by simpa using hb14, show (partsOk b) = false by simpa using hb18, Bool.true_and, Bool.false_and, Bool.true_or, Bool.false_or, Bool.or_true, Bool.and_true, Bool.or_false, Bool.and_false, Bool.not_true, Bool.not_false] <;> first | done | rfl | (simp; done))
    · skip
      refine Aw.skip (Aw.seq (Aw.region ?_))
      refine AwOps.v hT rfl ?_
      refine AwOps.cl (F191 a atS (by first | omega | (simp only [ByteArray.size_extract, ByteArray.size_append, loI, hiI]; omega))) [] rfl ⟨⟨rfl, rfl⟩, ⟨rfl, rfl⟩, trivial⟩ trivial rfl ?_   -- strings.Cut
      rintro _ _ rfl
      iterate 7 refine AwOps.v hT rfl ?_
      refine AwOps.nil (Aw.seq (Aw.region ?_))
      refine AwOps.v hT rfl ?_
      refine AwOps.cl (F191 b atS (by first | omega | (simp only [ByteArray.size_extract, ByteArray.size_append, loI, hiI]; omega))) [] rfl ⟨⟨rfl, rfl⟩, ⟨rfl, rfl⟩, trivial⟩ trivial rfl ?_   -- strings.Cut
      rintro _ _ rfl
      iterate 7 refine AwOps.v hT rfl ?_
      refine AwOps.nil (Aw.seq (Aw.region ?_))
      iterate 4 refine AwOps.v hT rfl ?_
      refine AwOps.split (t := 34) rfl (fun hb34 => ?_) (fun hb34 => ?_)
      · skip
        refine AwOps.v hT rfl ?_
        refine AwOps.v hT rfl ?_
        refine AwOps.cl (F194 _ _ (cutR_sz _ ha) (cutR_sz _ hb)) [] rfl ⟨⟨rfl, rfl⟩, ⟨rfl, rfl⟩, trivial⟩ trivial rfl ?_   -- host.equal
        rintro _ _ rfl
        refine AwOps.v hT rfl ?_
        refine AwOps.v hT rfl ?_
        refine AwOps.nil ?_
        refine Aw.ret ?_
        refine ⟨_, [], rfl, trivial, ?_⟩
        exact scb (by rw [mailMatchB, ← (partL_cut (s := a) (bnot_f hb14)).1, ← (partL_cut (s := a) (bnot_f hb14)).2, ← (partL_cut (s := b) (bnot_f hb18)).1, ← (partL_cut (s := b) (bnot_f hb18)).2]; simp only [show (partsOk a) = true by simpa using hb14, show (partsOk b) = true by simpa using hb18, show (seq ⟨(Lib.cut a.data.toList [64]).1.toArray⟩ ⟨(Lib.cut b.data.toList [64]).1.toArray⟩) = true from hb34, Bool.true_and, Bool.false_and, Bool.true_or, Bool.false_or, Bool.or_true, Bool.and_true, Bool.or_false, Bool.and_false, Bool.not_true, Bool.not_false] <;> first | done | rfl | (simp; done))
      · skip
        iterate 5 refine AwOps.v hT rfl ?_
        refine AwOps.nil ?_
        refine Aw.ret ?_
        refine ⟨_, [], rfl, trivial, ?_⟩
        exact scb (by rw [mailMatchB, ← (partL_cut (s := a) (bnot_f hb14)).1, ← (partL_cut (s := a) (bnot_f hb14)).2, ← (partL_cut (s := b) (bnot_f hb18)).1, ← (partL_cut (s := b) (bnot_f hb18)).2]; simp only [show (partsOk a) = true by simpa using hb14, show (partsOk b) = true by simpa using hb18, show (seq ⟨(Lib.cut a.data.toList [64]).1.toArray⟩ ⟨(Lib.cut b.data.toList [64]).1.toArray⟩) = false from hb34, Bool.true_and, Bool.false_and, Bool.true_or, Bool.false_or, Bool.or_true, Bool.and_true, Bool.or_false, Bool.and_false, Bool.not_true, Bool.not_false] <;> first | done | rfl | (simp; done))
-- f187 certpath/gname.of
theorem F187 (k : Int) : Fn Tryd.prog 55 [.pv (sc (.int .i64 k))] [] (fun r _ => r = sc (.int .i64 (ofK k))) := by
  refine Fn.intro (rs := [.tmp 2]) hT Tryd.func55 (by kernel_rfl) rfl rfl rfl rfl fun C => ?_
  refine Aw.seq (Aw.region ?_)
  refine AwOps.v hT rfl ?_
  refine AwOps.nil (Aw.seq (Aw.seq (Aw.region ?_)))
  refine AwOps.v hT rfl ?_
  refine AwOps.nil (Aw.block (Aw.seq (Aw.region ?_)))
  refine AwOps.v hT rfl ?_
  refine AwOps.v hT rfl ?_
  refine AwOps.nil ?_
  refine Aw.tst rfl (fun hb4 => ?_) (fun hb4 => ?_)
  · skip
    refine Aw.seq (Aw.region ?_)
    refine AwOps.v hT rfl ?_
    refine AwOps.nil ?_
    refine Aw.ret ?_
    refine ⟨_, [], rfl, trivial, ?_⟩
    exact sci' (by simp only [ofK, *, if_true, if_false, Bool.false_eq_true])
  · skip
    refine Aw.seq (Aw.region ?_)
    refine AwOps.v hT rfl ?_
    refine AwOps.v hT rfl ?_
    refine AwOps.nil ?_
    refine Aw.tst rfl (fun hb6 => ?_) (fun hb6 => ?_)
    · skip
      refine Aw.seq (Aw.region ?_)
      refine AwOps.v hT rfl ?_
      refine AwOps.nil ?_
      refine Aw.ret ?_
      refine ⟨_, [], rfl, trivial, ?_⟩
      exact sci' (by simp only [ofK, *, if_true, if_false, Bool.false_eq_true])
    · skip
      refine Aw.seq (Aw.region ?_)
      refine AwOps.v hT rfl ?_
      refine AwOps.v hT rfl ?_
      refine AwOps.nil ?_
      refine Aw.tst rfl (fun hb8 => ?_) (fun hb8 => ?_)
      · skip
        refine Aw.seq (Aw.region ?_)
        refine AwOps.v hT rfl ?_
        refine AwOps.nil ?_
        refine Aw.ret ?_
        refine ⟨_, [], rfl, trivial, ?_⟩
        exact sci' (by simp only [ofK, *, if_true, if_false, Bool.false_eq_true])
      · skip
        refine Aw.seq (Aw.region ?_)
        refine AwOps.v hT rfl ?_
        refine AwOps.v hT rfl ?_
        refine AwOps.nil ?_
        refine Aw.tst rfl (fun hb10 => ?_) (fun hb10 => ?_)
        · skip
          refine Aw.seq (Aw.region ?_)
          refine AwOps.v hT rfl ?_
          refine AwOps.nil ?_
          refine Aw.ret ?_
          refine ⟨_, [], rfl, trivial, ?_⟩
          exact sci' (by simp only [ofK, *, if_true, if_false, Bool.false_eq_true])
        · skip
          refine Aw.skip (Aw.seq (Aw.region ?_))
          refine AwOps.v hT rfl ?_
          refine AwOps.nil ?_
          refine Aw.ret ?_
          refine ⟨_, [], rfl, trivial, ?_⟩
          exact sci' (by simp only [ofK, *, if_true, if_false, Bool.false_eq_true])
-- f181 certpath/gname.Same
theorem F181 (g b : Gn) (hg : okG g) (hb : okG b) : Fn Tryd.prog 44 [.pv (.agg (eGn g)), .pv (.agg (eGn b))] [] (fun r _ => r = sc (.bool (sameG g b))) := by
  refine Fn.intro (rs := [.tmp 4]) hT Tryd.func44 (by kernel_rfl) rfl rfl rfl rfl fun C => ?_
  refine Aw.seq (Aw.region ?_)
  refine AwOps.eff hT rfl ?_
  refine AwOps.eff hT rfl ?_
  refine AwOps.v hT rfl ?_
  refine AwOps.nil (Aw.seq (Aw.seq (Aw.region ?_)))
  iterate 5 refine AwOps.v hT rfl ?_
  refine AwOps.nil ?_
  refine Aw.tst rfl (fun hb9 => ?_) (fun hb9 => ?_)
  · skip
    refine Aw.seq (Aw.region ?_)
    refine AwOps.v hT rfl ?_
    refine AwOps.nil ?_
    refine Aw.ret ?_
    refine ⟨_, [], rfl, trivial, ?_⟩
    exact scb (by rw [sameG]; simp only [show (g.kind != b.kind) = true from hb9, if_true, if_false, Bool.false_eq_true, Bool.true_and, Bool.false_and, Bool.true_or, Bool.false_or, Bool.or_true, Bool.and_true, Bool.or_false, Bool.and_false, Bool.not_true, Bool.not_false] <;> first | done | rfl | (simp; done))
  · skip
    refine Aw.skip (Aw.seq (Aw.seq (Aw.region ?_)))
    refine AwOps.v hT rfl ?_
    refine AwOps.v hT rfl ?_
    refine AwOps.cl (F187 _) [] rfl ⟨⟨rfl, rfl⟩, trivial⟩ trivial rfl ?_   -- gname.of
    rintro _ _ rfl
    refine AwOps.nil (Aw.block (Aw.seq (Aw.region ?_)))
    refine AwOps.v hT rfl ?_
    refine AwOps.v hT rfl ?_
    refine AwOps.nil ?_
    refine Aw.tst rfl (fun hb13 => ?_) (fun hb13 => ?_)
    · skip
      refine Aw.seq (Aw.seq (Aw.region ?_))
      refine AwOps.v hT rfl ?_
      refine AwOps.v hT rfl ?_
      refine AwOps.cl (F188 _ (by have := hg.1; have := hb.1; unfold okS at *; omega)) [] rfl ⟨⟨rfl, rfl⟩, trivial⟩ trivial rfl ?_   -- host.Mail
      rintro _ _ rfl
      refine AwOps.v hT rfl ?_
      refine AwOps.split (t := 18) rfl (fun hb18 => ?_) (fun hb18 => ?_)
      · skip
        refine AwOps.v hT rfl ?_
        refine AwOps.v hT rfl ?_
        refine AwOps.cl (F188 _ (by have := hg.1; have := hb.1; unfold okS at *; omega)) [] rfl ⟨⟨rfl, rfl⟩, trivial⟩ trivial rfl ?_   -- host.Mail
        rintro _ _ rfl
        refine AwOps.v hT rfl ?_
        refine AwOps.nil ?_
        refine Aw.tst rfl (fun hb22 => ?_) (fun hb22 => ?_)
        · skip
          refine Aw.seq (Aw.region ?_)
          iterate 4 refine AwOps.v hT rfl ?_
          refine AwOps.cl (F189 _ _ (by have := hg.1; have := hb.1; unfold okS at *; omega) (by have := hg.1; have := hb.1; unfold okS at *; omega)) [] rfl ⟨⟨rfl, rfl⟩, ⟨rfl, rfl⟩, trivial⟩ trivial rfl ?_   -- host.MailMatch
          rintro _ _ rfl
          refine AwOps.v hT rfl ?_
          refine AwOps.nil ?_
          refine Aw.ret ?_
          refine ⟨_, [], rfl, trivial, ?_⟩
          exact scb (by rw [sameG]; simp only [show (g.kind != b.kind) = false from hb9, show (g.kind == 1) = true from (of0 g.kind).symm.trans hb13, show (partsOk g.text) = true from hb18, show (partsOk b.text) = true from hb22, if_true, if_false, Bool.false_eq_true, Bool.true_and, Bool.false_and, Bool.true_or, Bool.false_or, Bool.or_true, Bool.and_true, Bool.or_false, Bool.and_false, Bool.not_true, Bool.not_false] <;> first | done | rfl | (simp; done))
        · skip
          refine Aw.skip (Aw.seq ?_)
          refine Aw.regionS [] [(true, 0), (true, 1), (true, 3), (true, 4), (false, 2), (false, 5), (true, 6), (true, 7)] (by kernel_rfl) (by kernel_rfl) ?_
          iterate 4 refine AwSch.take (Yd.val hT rfl rfl) ?_
          refine AwSch.one ?_
          refine Ed.cl (F190 _ (by have := hg.1; have := hb.1; unfold okS at *; omega)) [] rfl ⟨⟨rfl, rfl⟩, trivial⟩ trivial rfl rfl ?_   -- gname.small
          rintro _ _ rfl
          refine AwSch.one ?_
          refine Ed.cl (F190 _ (by have := hg.1; have := hb.1; unfold okS at *; omega)) [] rfl ⟨⟨rfl, rfl⟩, trivial⟩ trivial rfl rfl ?_   -- gname.small
          rintro _ _ rfl
          refine AwSch.take (Yd.val hT rfl rfl) ?_
          refine AwSch.take (Yd.val hT rfl rfl) ?_
          refine AwSch.nil ?_
          refine Aw.ret ?_
          refine ⟨_, [], rfl, trivial, ?_⟩
          exact scb (by rw [sameG]; simp only [show (g.kind != b.kind) = false from hb9, show (g.kind == 1) = true from (of0 g.kind).symm.trans hb13, show (partsOk g.text) = true from hb18, show (partsOk b.text) = false from hb22, if_true, if_false, Bool.false_eq_true, Bool.true_and, Bool.false_and, Bool.true_or, Bool.false_or, Bool.or_true, Bool.and_true, Bool.or_false, Bool.and_false, Bool.not_true, Bool.not_false] <;> first | done | rfl | (simp; done))
      · skip
        iterate 4 refine AwOps.v hT rfl ?_
        refine AwOps.nil (Aw.condF rfl (Aw.skip (Aw.seq ?_)))
        refine Aw.regionS [] [(true, 0), (true, 1), (true, 3), (true, 4), (false, 2), (false, 5), (true, 6), (true, 7)] (by kernel_rfl) (by kernel_rfl) ?_
        iterate 4 refine AwSch.take (Yd.val hT rfl rfl) ?_
        refine AwSch.one ?_
        refine Ed.cl (F190 _ (by have := hg.1; have := hb.1; unfold okS at *; omega)) [] rfl ⟨⟨rfl, rfl⟩, trivial⟩ trivial rfl rfl ?_   -- gname.small
        rintro _ _ rfl
        refine AwSch.one ?_
        refine Ed.cl (F190 _ (by have := hg.1; have := hb.1; unfold okS at *; omega)) [] rfl ⟨⟨rfl, rfl⟩, trivial⟩ trivial rfl rfl ?_   -- gname.small
        rintro _ _ rfl
        refine AwSch.take (Yd.val hT rfl rfl) ?_
        refine AwSch.take (Yd.val hT rfl rfl) ?_
        refine AwSch.nil ?_
        refine Aw.ret ?_
        refine ⟨_, [], rfl, trivial, ?_⟩
        exact scb (by rw [sameG]; simp only [show (g.kind != b.kind) = false from hb9, show (g.kind == 1) = true from (of0 g.kind).symm.trans hb13, show (partsOk g.text) = false from hb18, if_true, if_false, Bool.false_eq_true, Bool.true_and, Bool.false_and, Bool.true_or, Bool.false_or, Bool.or_true, Bool.and_true, Bool.or_false, Bool.and_false, Bool.not_true, Bool.not_false] <;> first | done | rfl | (simp; done))
    · skip
      refine Aw.seq (Aw.region ?_)
      refine AwOps.v hT rfl ?_
      refine AwOps.v hT rfl ?_
      refine AwOps.nil ?_
      refine Aw.tst rfl (fun hb35 => ?_) (fun hb35 => ?_)
      · skip
        refine Aw.seq ?_
        refine Aw.regionS [] [(true, 0), (true, 1), (true, 3), (true, 4), (false, 2), (false, 5), (true, 6), (true, 7)] (by kernel_rfl) (by kernel_rfl) ?_
        iterate 4 refine AwSch.take (Yd.val hT rfl rfl) ?_
        refine AwSch.one ?_
        refine Ed.cl (F190 _ (by have := hg.1; have := hb.1; unfold okS at *; omega)) [] rfl ⟨⟨rfl, rfl⟩, trivial⟩ trivial rfl rfl ?_   -- gname.small
        rintro _ _ rfl
        refine AwSch.one ?_
        refine Ed.cl (F190 _ (by have := hg.1; have := hb.1; unfold okS at *; omega)) [] rfl ⟨⟨rfl, rfl⟩, trivial⟩ trivial rfl rfl ?_   -- gname.small
        rintro _ _ rfl
        refine AwSch.take (Yd.val hT rfl rfl) ?_
        refine AwSch.take (Yd.val hT rfl rfl) ?_
        refine AwSch.nil ?_
        refine Aw.ret ?_
        refine ⟨_, [], rfl, trivial, ?_⟩
        exact scb (by rw [sameG]; simp only [show (g.kind != b.kind) = false from hb9, show (g.kind == 1) = false from (of0 g.kind).symm.trans hb13, show (g.kind == 2) = true from (of1 g.kind).symm.trans hb35, if_true, if_false, Bool.false_eq_true, Bool.true_and, Bool.false_and, Bool.true_or, Bool.false_or, Bool.or_true, Bool.and_true, Bool.or_false, Bool.and_false, Bool.not_true, Bool.not_false] <;> first | done | rfl | (simp; done))
      · skip
        refine Aw.seq (Aw.region ?_)
        refine AwOps.v hT rfl ?_
        refine AwOps.v hT rfl ?_
        refine AwOps.nil ?_
        refine Aw.tst rfl (fun hb44 => ?_) (fun hb44 => ?_)
        · skip
          refine Aw.seq (Aw.region ?_)
          iterate 4 refine AwOps.v hT rfl ?_
          refine AwOps.cl (Match_ok _ _ hg.2.1 hb.2.1) [] rfl ⟨⟨rfl, rfl⟩, ⟨rfl, rfl⟩, trivial⟩ trivial rfl ?_   -- dname.Match
          rintro _ _ rfl
          refine AwOps.v hT rfl ?_
          refine AwOps.nil ?_
          refine Aw.ret ?_
          refine ⟨_, [], rfl, trivial, ?_⟩
          exact scb (by rw [sameG]; simp only [show (g.kind != b.kind) = false from hb9, show (g.kind == 1) = false from (of0 g.kind).symm.trans hb13, show (g.kind == 2) = false from (of1 g.kind).symm.trans hb35, show (g.kind == 4) = true from (of2 g.kind).symm.trans hb44, if_true, if_false, Bool.false_eq_true, Bool.true_and, Bool.false_and, Bool.true_or, Bool.false_or, Bool.or_true, Bool.and_true, Bool.or_false, Bool.and_false, Bool.not_true, Bool.not_false] <;> first | done | rfl | (simp; done))
        · skip
          refine Aw.seq (Aw.region ?_)
          refine AwOps.v hT rfl ?_
          refine AwOps.v hT rfl ?_
          refine AwOps.nil ?_
          refine Aw.tst rfl (fun hb51 => ?_) (fun hb51 => ?_)
          · skip
            refine Aw.seq (Aw.region ?_)
            iterate 6 refine AwOps.v hT rfl ?_
            refine AwOps.nil ?_
            refine Aw.ret ?_
            refine ⟨_, [], rfl, trivial, ?_⟩
            exact scb (by rw [sameG]; simp only [show (g.kind != b.kind) = false from hb9, show (g.kind == 1) = false from (of0 g.kind).symm.trans hb13, show (g.kind == 2) = false from (of1 g.kind).symm.trans hb35, show (g.kind == 4) = false from (of2 g.kind).symm.trans hb44, show (g.kind == 7) = true from (of3 g.kind).symm.trans hb51, if_true, if_false, Bool.false_eq_true, Bool.true_and, Bool.false_and, Bool.true_or, Bool.false_or, Bool.or_true, Bool.and_true, Bool.or_false, Bool.and_false, Bool.not_true, Bool.not_false] <;> first | done | rfl | (simp; done))
          · skip
            refine Aw.skip (Aw.seq (Aw.region ?_))
            refine AwOps.v hT rfl ?_
            refine AwOps.nil ?_
            refine Aw.ret ?_
            refine ⟨_, [], rfl, trivial, ?_⟩
            exact scb (by rw [sameG]; simp only [show (g.kind != b.kind) = false from hb9, show (g.kind == 1) = false from (of0 g.kind).symm.trans hb13, show (g.kind == 2) = false from (of1 g.kind).symm.trans hb35, show (g.kind == 4) = false from (of2 g.kind).symm.trans hb44, show (g.kind == 7) = false from (of3 g.kind).symm.trans hb51, if_true, if_false, Bool.false_eq_true, Bool.true_and, Bool.false_and, Bool.true_or, Bool.false_or, Bool.or_true, Bool.and_true, Bool.or_false, Bool.and_false, Bool.not_true, Bool.not_false] <;> first | done | rfl | (simp; done))
-- f183 certpath/certpathref07.SameGeneral
theorem F183 (g b : Gn) (hg : okG g) (hb : okG b) : Fn Tryd.prog 47 [.pv (.agg (eGn g)), .pv (.agg (eGn b))] [] (fun r _ => r = sc (.bool (sameG g b))) := by
  refine Fn.intro (rs := [.tmp 4]) hT Tryd.func47 (by kernel_rfl) rfl rfl rfl rfl fun C => ?_
  refine Aw.seq (Aw.region ?_)
  refine AwOps.eff hT rfl ?_
  refine AwOps.eff hT rfl ?_
  refine AwOps.v hT rfl ?_
  refine AwOps.nil (Aw.seq (Aw.seq (Aw.region ?_)))
  iterate 5 refine AwOps.v hT rfl ?_
  refine AwOps.nil ?_
  refine Aw.tst rfl (fun hb9 => ?_) (fun hb9 => ?_)
  · skip
    refine Aw.seq (Aw.region ?_)
    refine AwOps.v hT rfl ?_
    refine AwOps.nil ?_
    refine Aw.ret ?_
    refine ⟨_, [], rfl, trivial, ?_⟩
    exact scb (by rw [sameG]; simp only [show (g.kind != b.kind) = true from hb9, if_true, if_false, Bool.false_eq_true, Bool.true_and, Bool.false_and, Bool.true_or, Bool.false_or, Bool.or_true, Bool.and_true, Bool.or_false, Bool.and_false, Bool.not_true, Bool.not_false] <;> first | done | rfl | (simp; done))
  · skip
    refine Aw.skip (Aw.seq (Aw.seq (Aw.region ?_)))
    refine AwOps.v hT rfl ?_
    refine AwOps.v hT rfl ?_
    refine AwOps.nil (Aw.block (Aw.seq (Aw.region ?_)))
    refine AwOps.v hT rfl ?_
    refine AwOps.v hT rfl ?_
    refine AwOps.nil ?_
    refine Aw.tst rfl (fun hb12 => ?_) (fun hb12 => ?_)
    · skip
      refine Aw.seq (Aw.seq (Aw.region ?_))
      refine AwOps.v hT rfl ?_
      refine AwOps.v hT rfl ?_
      refine AwOps.cl (F140 _ (by have := hg.1; have := hb.1; unfold okS at *; omega)) [] rfl ⟨⟨rfl, rfl⟩, trivial⟩ trivial rfl ?_   -- certpathref07.Mail
      rintro _ _ rfl
      refine AwOps.v hT rfl ?_
      refine AwOps.split (t := 17) rfl (fun hb17 => ?_) (fun hb17 => ?_)
      · skip
        refine AwOps.v hT rfl ?_
        refine AwOps.v hT rfl ?_
        refine AwOps.cl (F140 _ (by have := hg.1; have := hb.1; unfold okS at *; omega)) [] rfl ⟨⟨rfl, rfl⟩, trivial⟩ trivial rfl ?_   -- certpathref07.Mail
        rintro _ _ rfl
        refine AwOps.v hT rfl ?_
        refine AwOps.nil ?_
        refine Aw.tst rfl (fun hb21 => ?_) (fun hb21 => ?_)
        · skip
          refine Aw.seq (Aw.region ?_)
          iterate 4 refine AwOps.v hT rfl ?_
          refine AwOps.cl (F141 _ _ (by have := hg.1; have := hb.1; unfold okS at *; omega) (by have := hg.1; have := hb.1; unfold okS at *; omega)) [] rfl ⟨⟨rfl, rfl⟩, ⟨rfl, rfl⟩, trivial⟩ trivial rfl ?_   -- certpathref07.MailMatch
          rintro _ _ rfl
          refine AwOps.v hT rfl ?_
          refine AwOps.nil ?_
          refine Aw.ret ?_
          refine ⟨_, [], rfl, trivial, ?_⟩
          exact scb (by rw [sameG]; simp only [show (g.kind != b.kind) = false from hb9, show (g.kind == 1) = true from hb12, show (partsOk g.text) = true from hb17, show (partsOk b.text) = true from hb21, if_true, if_false, Bool.false_eq_true, Bool.true_and, Bool.false_and, Bool.true_or, Bool.false_or, Bool.or_true, Bool.and_true, Bool.or_false, Bool.and_false, Bool.not_true, Bool.not_false] <;> first | done | rfl | (simp; done))
        · skip
          refine Aw.skip (Aw.seq (Aw.region ?_))
          iterate 4 refine AwOps.v hT rfl ?_
          refine AwOps.cl (F142 _ _ (by have := hg.1; have := hb.1; unfold okS at *; omega) (by have := hg.1; have := hb.1; unfold okS at *; omega)) [] rfl ⟨⟨rfl, rfl⟩, ⟨rfl, rfl⟩, trivial⟩ trivial rfl ?_   -- certpathref07.alike
          rintro _ _ rfl
          refine AwOps.v hT rfl ?_
          refine AwOps.nil ?_
          refine Aw.ret ?_
          refine ⟨_, [], rfl, trivial, ?_⟩
          exact scb (by rw [sameG]; simp only [show (g.kind != b.kind) = false from hb9, show (g.kind == 1) = true from hb12, show (partsOk g.text) = true from hb17, show (partsOk b.text) = false from hb21, if_true, if_false, Bool.false_eq_true, Bool.true_and, Bool.false_and, Bool.true_or, Bool.false_or, Bool.or_true, Bool.and_true, Bool.or_false, Bool.and_false, Bool.not_true, Bool.not_false] <;> first | done | rfl | (simp; done))
      · skip
        iterate 4 refine AwOps.v hT rfl ?_
        refine AwOps.nil (Aw.condF rfl (Aw.skip (Aw.seq (Aw.region ?_))))
        iterate 4 refine AwOps.v hT rfl ?_
        refine AwOps.cl (F142 _ _ (by have := hg.1; have := hb.1; unfold okS at *; omega) (by have := hg.1; have := hb.1; unfold okS at *; omega)) [] rfl ⟨⟨rfl, rfl⟩, ⟨rfl, rfl⟩, trivial⟩ trivial rfl ?_   -- certpathref07.alike
        rintro _ _ rfl
        refine AwOps.v hT rfl ?_
        refine AwOps.nil ?_
        refine Aw.ret ?_
        refine ⟨_, [], rfl, trivial, ?_⟩
        exact scb (by rw [sameG]; simp only [show (g.kind != b.kind) = false from hb9, show (g.kind == 1) = true from hb12, show (partsOk g.text) = false from hb17, if_true, if_false, Bool.false_eq_true, Bool.true_and, Bool.false_and, Bool.true_or, Bool.false_or, Bool.or_true, Bool.and_true, Bool.or_false, Bool.and_false, Bool.not_true, Bool.not_false] <;> first | done | rfl | (simp; done))
    · skip
      refine Aw.seq (Aw.region ?_)
      refine AwOps.v hT rfl ?_
      refine AwOps.v hT rfl ?_
      refine AwOps.nil ?_
      refine Aw.tst rfl (fun hb32 => ?_) (fun hb32 => ?_)
      · skip
        refine Aw.seq (Aw.region ?_)
        iterate 4 refine AwOps.v hT rfl ?_
        refine AwOps.cl (F142 _ _ (by have := hg.1; have := hb.1; unfold okS at *; omega) (by have := hg.1; have := hb.1; unfold okS at *; omega)) [] rfl ⟨⟨rfl, rfl⟩, ⟨rfl, rfl⟩, trivial⟩ trivial rfl ?_   -- certpathref07.alike
        rintro _ _ rfl
        refine AwOps.v hT rfl ?_
        refine AwOps.nil ?_
        refine Aw.ret ?_
        refine ⟨_, [], rfl, trivial, ?_⟩
        exact scb (by rw [sameG]; simp only [show (g.kind != b.kind) = false from hb9, show (g.kind == 1) = false from hb12, show (g.kind == 2) = true from hb32, if_true, if_false, Bool.false_eq_true, Bool.true_and, Bool.false_and, Bool.true_or, Bool.false_or, Bool.or_true, Bool.and_true, Bool.or_false, Bool.and_false, Bool.not_true, Bool.not_false] <;> first | done | rfl | (simp; done))
      · skip
        refine Aw.seq (Aw.region ?_)
        refine AwOps.v hT rfl ?_
        refine AwOps.v hT rfl ?_
        refine AwOps.nil ?_
        refine Aw.tst rfl (fun hb39 => ?_) (fun hb39 => ?_)
        · skip
          refine Aw.seq (Aw.region ?_)
          iterate 4 refine AwOps.v hT rfl ?_
          refine AwOps.cl (MatchName_ok _ _ hg.2.1 hb.2.1) [] rfl ⟨⟨rfl, rfl⟩, ⟨rfl, rfl⟩, trivial⟩ trivial rfl ?_   -- certpathref07.MatchName
          rintro _ _ rfl
          refine AwOps.v hT rfl ?_
          refine AwOps.nil ?_
          refine Aw.ret ?_
          refine ⟨_, [], rfl, trivial, ?_⟩
          exact scb (by rw [sameG]; simp only [show (g.kind != b.kind) = false from hb9, show (g.kind == 1) = false from hb12, show (g.kind == 2) = false from hb32, show (g.kind == 4) = true from hb39, if_true, if_false, Bool.false_eq_true, Bool.true_and, Bool.false_and, Bool.true_or, Bool.false_or, Bool.or_true, Bool.and_true, Bool.or_false, Bool.and_false, Bool.not_true, Bool.not_false] <;> first | done | rfl | (simp; done))
        · skip
          refine Aw.seq (Aw.region ?_)
          refine AwOps.v hT rfl ?_
          refine AwOps.v hT rfl ?_
          refine AwOps.nil ?_
          refine Aw.tst rfl (fun hb46 => ?_) (fun hb46 => ?_)
          · skip
            refine Aw.seq (Aw.region ?_)
            iterate 6 refine AwOps.v hT rfl ?_
            refine AwOps.nil ?_
            refine Aw.ret ?_
            refine ⟨_, [], rfl, trivial, ?_⟩
            exact scb (by rw [sameG]; simp only [show (g.kind != b.kind) = false from hb9, show (g.kind == 1) = false from hb12, show (g.kind == 2) = false from hb32, show (g.kind == 4) = false from hb39, show (g.kind == 7) = true from hb46, if_true, if_false, Bool.false_eq_true, Bool.true_and, Bool.false_and, Bool.true_or, Bool.false_or, Bool.or_true, Bool.and_true, Bool.or_false, Bool.and_false, Bool.not_true, Bool.not_false] <;> first | done | rfl | (simp; done))
          · skip
            refine Aw.skip (Aw.seq (Aw.region ?_))
            refine AwOps.v hT rfl ?_
            refine AwOps.nil ?_
            refine Aw.ret ?_
            refine ⟨_, [], rfl, trivial, ?_⟩
            exact scb (by rw [sameG]; simp only [show (g.kind != b.kind) = false from hb9, show (g.kind == 1) = false from hb12, show (g.kind == 2) = false from hb32, show (g.kind == 4) = false from hb39, show (g.kind == 7) = false from hb46, if_true, if_false, Bool.false_eq_true, Bool.true_and, Bool.false_and, Bool.true_or, Bool.false_or, Bool.or_true, Bool.and_true, Bool.or_false, Bool.and_false, Bool.not_true, Bool.not_false] <;> first | done | rfl | (simp; done))
end Go.Proofs.YtbdgmondalkhlaaDoor.Aw
