
/- The walks of the program's functions over DNS names and mail addresses: as the reference's.
   Conditions: none. -/
import Derived.Test.YtbdgmondalkhlaaDoorWkHost2
import Derived.Test.YtbdgmondalkhlaaDoorLbStr
namespace Go.Proofs.YtbdgmondalkhlaaDoor.Aw
open Go
set_option maxRecDepth 100000
set_option maxHeartbeats 4000000
set_option linter.unusedSimpArgs false
set_option linter.unusedVariables false

theorem u8_low2 {c : UInt8} (h1 : 65 ≤ c.toNat) (h2 : c.toNat ≤ 90) : IntKind.wrap .u8 (IntKind.wrap .u8 ((c.toNat : Int) + 97) - 65) = ((low c).toNat : Int) := by
  have h3 := u8_low h1 h2
  have w8 : ∀ x : Int, IntKind.wrap .u8 x = x % 256 := fun x => by simp [IntKind.wrap, IntKind.signed, IntKind.bits]
  rw [← h3, w8, w8, w8]
  omega
theorem row_yes {L : List UInt8} {i : Nat} (h : i < L.length) (h1 : 65 ≤ L[i].toNat) (h2 : L[i].toNat ≤ 90) :
    some (HB.row 5 1 false ((eU (lw L i)).set i [.v (.int .u8 (IntKind.wrap .u8 (IntKind.wrap .u8 ((L[i].toNat : Int) + 97) - 65)))])) = some (HB.row 5 1 false (eU (lw L (i + 1)))) := by
  rw [u8_low2 h1 h2, ← lw_set h, ← eU_set]
  rfl
theorem row_no {L : List UInt8} {i : Nat} (h : i < L.length) (hn : ¬ (65 ≤ L[i].toNat ∧ L[i].toNat ≤ 90)) : some (HB.row 5 1 false (eU (lw L i))) = some (HB.row 5 1 false (eU (lw L (i + 1)))) := by
  have hlo : low L[i] = L[i] := by rw [low, if_neg hn]
  rw [← lw_set h, hlo, set_same (lw_at h)]
theorem lw_full (L : List UInt8) : bS ((lw L L.length).take L.length) = bS (L.map low) := by
  have : lw L L.length = L.map low := by rw [lw, List.take_length, List.drop_length, List.append_nil]
  rw [this, List.take_of_length_le (by simp)]
-- f202 certpath/host.small
theorem F202 (s : ByteArray) (hs : s.size ≤ 1073741824) : Fn Tryd.prog 84 [.pv (sc (.string s))] [] (fun r _ => r = sc (.string (lowB s))) := by
  refine Fn.intro (rs := [.tmp 2]) hT Tryd.func84 (by kernel_rfl) rfl rfl rfl rfl fun C => ?_
  refine Aw.seq (Aw.region ?_)
  refine AwOps.v hT rfl ?_
  refine AwOps.nil (Aw.seq (Aw.region ?_))
  refine AwOps.v hT rfl ?_
  refine AwOps.bytes hT rfl (Nat.le_trans hs (by decide)) ?_
  refine AwOps.v hT rfl ?_
  refine AwOps.nil (Aw.seq (Aw.seq (Aw.region ?_)))
  iterate 3 refine AwOps.v hT rfl ?_
  refine AwOps.nil (Aw.block ?_)
  have hB1 : s.data.toList.length ≤ maxLen := Nat.le_trans hs (by decide)
  refine Aw.lp (ι := Nat) (n := 30) [(3, _), (8, _), (9, _)] [] (fun gq => [(10, sc (.int .i64 gq))]) (fun gq => [(7, .row 5 1 false (eU (lw s.data.toList gq)))]) (fun gq => gq ≤ s.data.toList.length ∧ (True)) (fun gq => s.data.toList.length - gq) (0) ?ok1 (Less.tn ⟨rfl, ⟨rfl, rfl, rfl, rfl, trivial⟩, ⟨rfl, trivial⟩⟩) ?bd1
  case ok1 =>
    try dsimp only
    exact ⟨Nat.zero_le _, trivial⟩
  case bd1 =>
    intro i1 hi1
    try dsimp only at hi1
    show Aw _ _ _ ⟨30, [(10, sc (.int .i64 i1))] ++ [(3, _), (8, _), (9, _)], [(7, .row 5 1 false (eU (lw s.data.toList i1)))] ++ []⟩ _
    refine Aw.seq (Aw.region ?_)
    refine AwOps.v hT rfl ?_
    refine AwOps.nil (Aw.seq ?_)
    refine Aw.tst rfl (fun hb11 => ?_) (fun hb11 => ?_)
    · skip
      have hlt1 : i1 < s.data.toList.length := by simpa using hb11
      have hel : (eU (lw s.data.toList i1))[i1]? = some (eUn s.data.toList[i1]) := by rw [eU, List.getElem?_map, lw_at hlt1]; rfl
      refine Aw.skip (Aw.seq (Aw.block (Aw.seq (Aw.region ?_))))
      refine AwOps.v hT rfl ?_
      refine AwOps.idxo hT rfl rfl (by omega) hlt1 ?_
      refine AwOps.ldo hT rfl rfl (eUn s.data.toList[i1]) hel rfl ?_
      refine AwOps.v hT rfl ?_
      refine AwOps.v hT rfl ?_
      refine AwOps.nil (Aw.seq (Aw.region ?_))
      iterate 3 refine AwOps.v hT rfl ?_
      refine AwOps.split (t := 17) rfl (fun hb17 => ?_) (fun hb17 => ?_)
      · skip
        iterate 3 refine AwOps.v hT rfl ?_
        refine AwOps.nil ?_
        refine Aw.tst rfl (fun hb20 => ?_) (fun hb20 => ?_)
        · skip
          refine Aw.region ?_
          iterate 5 refine AwOps.v hT rfl ?_
          refine AwOps.idxo hT rfl rfl (by omega) hlt1 ?_
          refine AwOps.sto hT rfl rfl (eUn s.data.toList[i1]) hel (Nat.le_refl 1) ?_
          refine AwOps.nil (Aw.region ?_)
          refine AwOps.v hT rfl ?_
          refine AwOps.v hT rfl ?_
          refine AwOps.nil ?_
          refine ⟨(i1 + 1), ?nx1, ?mu1, Less.tn ⟨rfl, ⟨incS hlt1 hB1, rfl, rfl, rfl, trivial⟩, ⟨(by first | exact row_yes hlt1 (by have := of_decide_eq_true hb17; omega) (by have := of_decide_eq_true hb20; omega) | exact row_no hlt1 (by intro hn; first | (have := of_decide_eq_false hb17; omega) | (have := of_decide_eq_false hb20; omega))), trivial⟩⟩⟩
          case nx1 =>
            try dsimp only
            first | exact ⟨hlt1, trivial⟩ | trivial
          case mu1 =>
            try dsimp only
            first | omega | (simp only [w64] at *; omega) | (simp [w64] at *; omega)
        · skip
          refine Aw.skip (Aw.region ?_)
          refine AwOps.v hT rfl ?_
          refine AwOps.v hT rfl ?_
          refine AwOps.nil ?_
          refine ⟨(i1 + 1), ?nx1, ?mu1, Less.tn ⟨rfl, ⟨incS hlt1 hB1, rfl, rfl, rfl, trivial⟩, ⟨(by first | exact row_yes hlt1 (by have := of_decide_eq_true hb17; omega) (by have := of_decide_eq_true hb20; omega) | exact row_no hlt1 (by intro hn; first | (have := of_decide_eq_false hb17; omega) | (have := of_decide_eq_false hb20; omega))), trivial⟩⟩⟩
          case nx1 =>
            try dsimp only
            first | exact ⟨hlt1, trivial⟩ | trivial
          case mu1 =>
            try dsimp only
            first | omega | (simp only [w64] at *; omega) | (simp [w64] at *; omega)
      · skip
        iterate 3 refine AwOps.v hT rfl ?_
        refine AwOps.nil (Aw.condF rfl (Aw.skip (Aw.region ?_)))
        refine AwOps.v hT rfl ?_
        refine AwOps.v hT rfl ?_
        refine AwOps.nil ?_
        refine ⟨(i1 + 1), ?nx1, ?mu1, Less.tn ⟨rfl, ⟨incS hlt1 hB1, rfl, rfl, rfl, trivial⟩, ⟨(by first | exact row_yes hlt1 (by have := of_decide_eq_true hb17; omega) (by have := of_decide_eq_true hb20; omega) | exact row_no hlt1 (by intro hn; first | (have := of_decide_eq_false hb17; omega) | (have := of_decide_eq_false hb20; omega))), trivial⟩⟩⟩
        case nx1 =>
          try dsimp only
          first | exact ⟨hlt1, trivial⟩ | trivial
        case mu1 =>
          try dsimp only
          first | omega | (simp only [w64] at *; omega) | (simp [w64] at *; omega)
    · skip
      have he : i1 = s.data.toList.length := by have := of_decide_eq_false hb11; have := hi1.1; omega
      subst he
      refine Aw.exit (Aw.seq (Aw.region ?_))
      refine AwOps.v hT rfl ?_
      refine AwOps.str hT rfl rfl (Nat.le_of_eq (by rw [lw_len _ (Nat.le_refl _)])) ?_
      refine AwOps.v hT rfl ?_
      refine AwOps.nil ?_
      refine Aw.ret ?_
      refine ⟨_, [], rfl, trivial, ?_⟩
      show sc (.string (bS ((lw s.data.toList s.data.toList.length).take s.data.toList.length))) = _
      rw [lw_full]
      rfl
-- f190 certpath/gname.small
theorem F190 (s : ByteArray) (hs : s.size ≤ 1073741824) : Fn Tryd.prog 58 [.pv (sc (.string s))] [] (fun r _ => r = sc (.string (lowB s))) := by
  refine Fn.intro (rs := [.tmp 2]) hT Tryd.func58 (by kernel_rfl) rfl rfl rfl rfl fun C => ?_
  refine Aw.seq (Aw.region ?_)
  refine AwOps.v hT rfl ?_
  refine AwOps.nil (Aw.seq (Aw.region ?_))
  refine AwOps.v hT rfl ?_
  refine AwOps.bytes hT rfl (Nat.le_trans hs (by decide)) ?_
  refine AwOps.v hT rfl ?_
  refine AwOps.nil (Aw.seq (Aw.seq (Aw.region ?_)))
  iterate 3 refine AwOps.v hT rfl ?_
  refine AwOps.nil (Aw.block ?_)
  have hB1 : s.data.toList.length ≤ maxLen := Nat.le_trans hs (by decide)
  refine Aw.lp (ι := Nat) (n := 30) [(3, _), (8, _), (9, _)] [] (fun gq => [(10, sc (.int .i64 gq))]) (fun gq => [(7, .row 5 1 false (eU (lw s.data.toList gq)))]) (fun gq => gq ≤ s.data.toList.length ∧ (True)) (fun gq => s.data.toList.length - gq) (0) ?ok1 (Less.tn ⟨rfl, ⟨rfl, rfl, rfl, rfl, trivial⟩, ⟨rfl, trivial⟩⟩) ?bd1
  case ok1 =>
    try dsimp only
    exact ⟨Nat.zero_le _, trivial⟩
  case bd1 =>
    intro i1 hi1
    try dsimp only at hi1
    show Aw _ _ _ ⟨30, [(10, sc (.int .i64 i1))] ++ [(3, _), (8, _), (9, _)], [(7, .row 5 1 false (eU (lw s.data.toList i1)))] ++ []⟩ _
    refine Aw.seq (Aw.region ?_)
    refine AwOps.v hT rfl ?_
    refine AwOps.nil (Aw.seq ?_)
    refine Aw.tst rfl (fun hb11 => ?_) (fun hb11 => ?_)
    · skip
      have hlt1 : i1 < s.data.toList.length := by simpa using hb11
      have hel : (eU (lw s.data.toList i1))[i1]? = some (eUn s.data.toList[i1]) := by rw [eU, List.getElem?_map, lw_at hlt1]; rfl
      refine Aw.skip (Aw.seq (Aw.block (Aw.seq (Aw.region ?_))))
      refine AwOps.v hT rfl ?_
      refine AwOps.idxo hT rfl rfl (by omega) hlt1 ?_
      refine AwOps.ldo hT rfl rfl (eUn s.data.toList[i1]) hel rfl ?_
      refine AwOps.v hT rfl ?_
      refine AwOps.v hT rfl ?_
      refine AwOps.nil (Aw.seq (Aw.region ?_))
      iterate 3 refine AwOps.v hT rfl ?_
      refine AwOps.split (t := 17) rfl (fun hb17 => ?_) (fun hb17 => ?_)
      · skip
        iterate 3 refine AwOps.v hT rfl ?_
        refine AwOps.nil ?_
        refine Aw.tst rfl (fun hb20 => ?_) (fun hb20 => ?_)
        · skip
          refine Aw.region ?_
          iterate 5 refine AwOps.v hT rfl ?_
          refine AwOps.idxo hT rfl rfl (by omega) hlt1 ?_
          refine AwOps.sto hT rfl rfl (eUn s.data.toList[i1]) hel (Nat.le_refl 1) ?_
          refine AwOps.nil (Aw.region ?_)
          refine AwOps.v hT rfl ?_
          refine AwOps.v hT rfl ?_
          refine AwOps.nil ?_
          refine ⟨(i1 + 1), ?nx1, ?mu1, Less.tn ⟨rfl, ⟨incS hlt1 hB1, rfl, rfl, rfl, trivial⟩, ⟨(by first | exact row_yes hlt1 (by have := of_decide_eq_true hb17; omega) (by have := of_decide_eq_true hb20; omega) | exact row_no hlt1 (by intro hn; first | (have := of_decide_eq_false hb17; omega) | (have := of_decide_eq_false hb20; omega))), trivial⟩⟩⟩
          case nx1 =>
            try dsimp only
            first | exact ⟨hlt1, trivial⟩ | trivial
          case mu1 =>
            try dsimp only
            first | omega | (simp only [w64] at *; omega) | (simp [w64] at *; omega)
        · skip
          refine Aw.skip (Aw.region ?_)
          refine AwOps.v hT rfl ?_
          refine AwOps.v hT rfl ?_
          refine AwOps.nil ?_
          refine ⟨(i1 + 1), ?nx1, ?mu1, Less.tn ⟨rfl, ⟨incS hlt1 hB1, rfl, rfl, rfl, trivial⟩, ⟨(by first | exact row_yes hlt1 (by have := of_decide_eq_true hb17; omega) (by have := of_decide_eq_true hb20; omega) | exact row_no hlt1 (by intro hn; first | (have := of_decide_eq_false hb17; omega) | (have := of_decide_eq_false hb20; omega))), trivial⟩⟩⟩
          case nx1 =>
            try dsimp only
            first | exact ⟨hlt1, trivial⟩ | trivial
          case mu1 =>
            try dsimp only
            first | omega | (simp only [w64] at *; omega) | (simp [w64] at *; omega)
      · skip
        iterate 3 refine AwOps.v hT rfl ?_
        refine AwOps.nil (Aw.condF rfl (Aw.skip (Aw.region ?_)))
        refine AwOps.v hT rfl ?_
        refine AwOps.v hT rfl ?_
        refine AwOps.nil ?_
        refine ⟨(i1 + 1), ?nx1, ?mu1, Less.tn ⟨rfl, ⟨incS hlt1 hB1, rfl, rfl, rfl, trivial⟩, ⟨(by first | exact row_yes hlt1 (by have := of_decide_eq_true hb17; omega) (by have := of_decide_eq_true hb20; omega) | exact row_no hlt1 (by intro hn; first | (have := of_decide_eq_false hb17; omega) | (have := of_decide_eq_false hb20; omega))), trivial⟩⟩⟩
        case nx1 =>
          try dsimp only
          first | exact ⟨hlt1, trivial⟩ | trivial
        case mu1 =>
          try dsimp only
          first | omega | (simp only [w64] at *; omega) | (simp [w64] at *; omega)
    · skip
      have he : i1 = s.data.toList.length := by have := of_decide_eq_false hb11; have := hi1.1; omega
      subst he
      refine Aw.exit (Aw.seq (Aw.region ?_))
      refine AwOps.v hT rfl ?_
      refine AwOps.str hT rfl rfl (Nat.le_of_eq (by rw [lw_len _ (Nat.le_refl _)])) ?_
      refine AwOps.v hT rfl ?_
      refine AwOps.nil ?_
      refine Aw.ret ?_
      refine ⟨_, [], rfl, trivial, ?_⟩
      show sc (.string (bS ((lw s.data.toList s.data.toList.length).take s.data.toList.length))) = _
      rw [lw_full]
      rfl
-- f194 certpath/host.equal
theorem F194 (a b : ByteArray) (ha : a.size ≤ 1073741824) (hb : b.size ≤ 1073741824) : Fn Tryd.prog 71 [.pv (sc (.string a)), .pv (sc (.string b))] [] (fun r _ => r = sc (.bool (alikeB a b))) := by
  refine Fn.intro (rs := [.tmp 4]) hT Tryd.func71 (by kernel_rfl) rfl rfl rfl rfl fun C => ?_
  refine Aw.seq (Aw.region ?_)
  refine AwOps.v hT rfl ?_
  refine AwOps.nil (Aw.seq (Aw.region ?_))
  refine AwOps.v hT rfl ?_
  refine AwOps.cl (F202 _ (by first | omega | (simp only [ByteArray.size_extract, ByteArray.size_append, loI, hiI]; omega))) [] rfl ⟨⟨rfl, rfl⟩, trivial⟩ trivial rfl ?_   -- host.small
  rintro _ _ rfl
  refine AwOps.v hT rfl ?_
  refine AwOps.cl (F202 _ (by first | omega | (simp only [ByteArray.size_extract, ByteArray.size_append, loI, hiI]; omega))) [] rfl ⟨⟨rfl, rfl⟩, trivial⟩ trivial rfl ?_   -- host.small
  rintro _ _ rfl
  refine AwOps.v hT rfl ?_
  refine AwOps.v hT rfl ?_
  refine AwOps.nil ?_
  refine Aw.ret ?_
  refine ⟨_, [], rfl, trivial, ?_⟩
  exact rfl
def letterI (c : Int) : Bool := (decide (c ≥ 97) && decide (c ≤ 122)) || (decide (c ≥ 65) && decide (c ≤ 90))
def digitI (c : Int) : Bool := decide (c ≥ 48) && decide (c ≤ 57)
theorem alnum_ld (c : Int) : alnumI c = (letterI c || digitI c) := by
  unfold alnumI letterI digitI
  cases decide (c ≥ 65) <;> cases decide (c ≤ 90) <;> cases decide (c ≥ 97) <;> cases decide (c ≤ 122) <;> cases decide (c ≥ 48) <;> cases decide (c ≤ 57) <;> rfl
theorem byte_at {s : ByteArray} {i : Nat} (h : i < s.data.toList.length) : (eU s.data.toList)[i]? = some (eUn s.data.toList[i]) := by rw [eU, List.getElem?_map, List.getElem?_eq_getElem h]; rfl
-- f197 certpath/host.letter
theorem F197 (c : Int) : Fn Tryd.prog 79 [.pv (sc (.int .u8 c))] [] (fun r _ => r = sc (.bool (letterI c))) := by
  refine Fn.intro (rs := [.tmp 2]) hT Tryd.func79 (by kernel_rfl) rfl rfl rfl rfl fun C => ?_
  refine Aw.seq (Aw.region ?_)
  refine AwOps.v hT rfl ?_
  refine AwOps.nil (Aw.seq (Aw.region ?_))
  iterate 3 refine AwOps.v hT rfl ?_
  refine AwOps.split (t := 5) rfl (fun hb5 => ?_) (fun hb5 => ?_)
  · skip
    iterate 4 refine AwOps.v hT rfl ?_
    refine AwOps.split (t := 9) rfl (fun hb9 => ?_) (fun hb9 => ?_)
    · skip
      iterate 8 refine AwOps.v hT rfl ?_
      refine AwOps.nil ?_
      refine Aw.ret ?_
      refine ⟨_, [], rfl, trivial, ?_⟩
      exact scb (by simp only [letterI, *, Bool.true_and, Bool.false_and, Bool.true_or, Bool.false_or, Bool.or_true, Bool.and_true, Bool.or_false, Bool.and_false, Bool.not_true, Bool.not_false])
    · skip
      iterate 3 refine AwOps.v hT rfl ?_
      refine AwOps.split (t := 12) rfl (fun hb12 => ?_) (fun hb12 => ?_)
      · skip
        iterate 5 refine AwOps.v hT rfl ?_
        refine AwOps.nil ?_
        refine Aw.ret ?_
        refine ⟨_, [], rfl, trivial, ?_⟩
        exact scb (by simp only [letterI, *, Bool.true_and, Bool.false_and, Bool.true_or, Bool.false_or, Bool.or_true, Bool.and_true, Bool.or_false, Bool.and_false, Bool.not_true, Bool.not_false])
      · skip
        iterate 5 refine AwOps.v hT rfl ?_
        refine AwOps.nil ?_
        refine Aw.ret ?_
        refine ⟨_, [], rfl, trivial, ?_⟩
        exact scb (by simp only [letterI, *, Bool.true_and, Bool.false_and, Bool.true_or, Bool.false_or, Bool.or_true, Bool.and_true, Bool.or_false, Bool.and_false, Bool.not_true, Bool.not_false])
  · skip
    iterate 7 refine AwOps.v hT rfl ?_
    refine AwOps.split (t := 12) rfl (fun hb12 => ?_) (fun hb12 => ?_)
    · skip
      iterate 5 refine AwOps.v hT rfl ?_
      refine AwOps.nil ?_
      refine Aw.ret ?_
      refine ⟨_, [], rfl, trivial, ?_⟩
      exact scb (by simp only [letterI, *, Bool.true_and, Bool.false_and, Bool.true_or, Bool.false_or, Bool.or_true, Bool.and_true, Bool.or_false, Bool.and_false, Bool.not_true, Bool.not_false])
    · skip
      iterate 5 refine AwOps.v hT rfl ?_
      refine AwOps.nil ?_
      refine Aw.ret ?_
      refine ⟨_, [], rfl, trivial, ?_⟩
      exact scb (by simp only [letterI, *, Bool.true_and, Bool.false_and, Bool.true_or, Bool.false_or, Bool.or_true, Bool.and_true, Bool.or_false, Bool.and_false, Bool.not_true, Bool.not_false])
-- f198 certpath/host.digit
theorem F198 (c : Int) : Fn Tryd.prog 80 [.pv (sc (.int .u8 c))] [] (fun r _ => r = sc (.bool (digitI c))) := by
  refine Fn.intro (rs := [.tmp 2]) hT Tryd.func80 (by kernel_rfl) rfl rfl rfl rfl fun C => ?_
  refine Aw.seq (Aw.region ?_)
  refine AwOps.v hT rfl ?_
  refine AwOps.nil (Aw.seq (Aw.region ?_))
  iterate 3 refine AwOps.v hT rfl ?_
  refine AwOps.split (t := 5) rfl (fun hb5 => ?_) (fun hb5 => ?_)
  · skip
    iterate 4 refine AwOps.v hT rfl ?_
    refine AwOps.nil ?_
    refine Aw.ret ?_
    refine ⟨_, [], rfl, trivial, ?_⟩
    exact scb (by simp only [digitI, *, Bool.true_and, Bool.false_and, Bool.true_or, Bool.false_or, Bool.or_true, Bool.and_true, Bool.or_false, Bool.and_false, Bool.not_true, Bool.not_false])
  · skip
    iterate 4 refine AwOps.v hT rfl ?_
    refine AwOps.nil ?_
    refine Aw.ret ?_
    refine ⟨_, [], rfl, trivial, ?_⟩
    exact scb (by simp only [digitI, *, Bool.true_and, Bool.false_and, Bool.true_or, Bool.false_or, Bool.or_true, Bool.and_true, Bool.or_false, Bool.and_false, Bool.not_true, Bool.not_false])
-- f201 certpath/host.label
theorem F201 (s : ByteArray) (hs : s.size ≤ 1073741824) : Fn Tryd.prog 83 [.pv (sc (.string s))] [] (fun r _ => r = sc (.bool (labB s))) := by
  refine Fn.intro (rs := [.tmp 2]) hT Tryd.func83 (by kernel_rfl) rfl rfl rfl rfl fun C => ?_
  refine Aw.seq (Aw.region ?_)
  refine AwOps.v hT rfl ?_
  refine AwOps.nil (Aw.seq (Aw.seq (Aw.region ?_)))
  iterate 4 refine AwOps.v hT rfl ?_
  refine AwOps.split (t := 8) rfl (fun hb8 => ?_) (fun hb8 => ?_)
  · skip
    iterate 17 refine AwOps.v hT rfl ?_
    refine AwOps.nil (Aw.condT rfl (Aw.seq (Aw.region ?_)))
    refine AwOps.v hT rfl ?_
    refine AwOps.nil ?_
    refine Aw.ret ?_
    refine ⟨_, [], rfl, trivial, ?_⟩
    exact scb (labB_no (.inl hb8)).symm
  · skip
    have hx0 := of_decide_eq_false hb8
    iterate 5 refine AwOps.v hT rfl ?_
    refine AwOps.split (t := 13) rfl (fun hb13 => ?_) (fun hb13 => ?_)
    · skip
      iterate 12 refine AwOps.v hT rfl ?_
      refine AwOps.nil (Aw.condT rfl (Aw.seq (Aw.region ?_)))
      refine AwOps.v hT rfl ?_
      refine AwOps.nil ?_
      refine Aw.ret ?_
      refine ⟨_, [], rfl, trivial, ?_⟩
      exact scb (labB_no (.inr (.inl hb13))).symm
    · skip
      have hx1 := of_decide_eq_false hb13
      refine AwOps.v hT rfl ?_
      refine AwOps.byte hT rfl (by omega) (by omega) ?_
      iterate 3 refine AwOps.v hT rfl ?_
      refine AwOps.split (t := 18) rfl (fun hb18 => ?_) (fun hb18 => ?_)
      · skip
        iterate 7 refine AwOps.v hT rfl ?_
        refine AwOps.nil (Aw.condT rfl (Aw.seq (Aw.region ?_)))
        refine AwOps.v hT rfl ?_
        refine AwOps.nil ?_
        refine Aw.ret ?_
        refine ⟨_, [], rfl, trivial, ?_⟩
        exact scb (labB_no (.inr (.inr (.inl hb18)))).symm
      · skip
        iterate 4 refine AwOps.v hT rfl ?_
        first | refine AwOps.nm 22 rfl (by omega) (by omega) ?_ | skip
        refine AwOps.byte hT rfl (by omega) (by omega) ?_
        refine AwOps.v hT rfl ?_
        refine AwOps.v hT rfl ?_
        refine AwOps.nil ?_
        refine Aw.tst rfl (fun hb25 => ?_) (fun hb25 => ?_)
        · skip
          refine Aw.seq (Aw.region ?_)
          refine AwOps.v hT rfl ?_
          refine AwOps.nil ?_
          refine Aw.ret ?_
          refine ⟨_, [], rfl, trivial, ?_⟩
          exact scb (labB_no (.inr (.inr (.inr (.inl hb25))))).symm
        · skip
          refine Aw.skip (Aw.seq (Aw.seq (Aw.region ?_)))
          refine AwOps.v hT rfl ?_
          refine AwOps.bytes hT rfl (Nat.le_trans hs (by decide)) ?_
          refine AwOps.v hT rfl ?_
          refine AwOps.v hT rfl ?_
          refine AwOps.nil (Aw.block ?_)
          have hB1 : s.data.toList.length ≤ maxLen := Nat.le_trans hs (by decide)
          refine Aw.lp (ι := Nat) (n := 46) [(27, _), (28, _)] [(27, _)] (fun gq => [(29, sc (.int .i64 gq))]) (fun gq => []) (fun gq => gq ≤ s.data.toList.length ∧ ((List.range gq).all (labP s) = true)) (fun gq => s.data.toList.length - gq) (0) ?ok1 (Less.tn ⟨rfl, ⟨rfl, rfl, rfl, trivial⟩, ⟨rfl, trivial⟩⟩) ?bd1
          case ok1 =>
            try dsimp only
            exact ⟨Nat.zero_le _, rfl⟩
          case bd1 =>
            intro i1 hi1
            try dsimp only at hi1
            show Aw _ _ _ ⟨46, [(29, sc (.int .i64 i1))] ++ [(27, _), (28, _)], [] ++ [(27, _)]⟩ _
            refine Aw.seq (Aw.region ?_)
            refine AwOps.v hT rfl ?_
            refine AwOps.nil (Aw.seq ?_)
            refine Aw.tst rfl (fun hb30 => ?_) (fun hb30 => ?_)
            · skip
              have hlt1 : i1 < s.data.toList.length := by simpa using hb30
              refine Aw.skip (Aw.seq (Aw.block (Aw.seq (Aw.region ?_))))
              refine AwOps.idxo hT rfl rfl (by omega) hlt1 ?_
              refine AwOps.ldo hT rfl rfl (eUn s.data.toList[i1]) (byte_at hlt1) rfl ?_
              refine AwOps.v hT rfl ?_
              refine AwOps.nil (Aw.seq (Aw.region ?_))
              refine AwOps.v hT rfl ?_
              refine AwOps.cl (F197 _) [] rfl ⟨⟨rfl, rfl⟩, trivial⟩ trivial rfl ?_   -- host.letter
              rintro _ _ rfl
              refine AwOps.v hT rfl ?_
              refine AwOps.v hT rfl ?_
              refine AwOps.split (t := 36) rfl (fun hb36 => ?_) (fun hb36 => ?_)
              · skip
                refine AwOps.v hT rfl ?_
                refine AwOps.cl (F198 _) [] rfl ⟨⟨rfl, rfl⟩, trivial⟩ trivial rfl ?_   -- host.digit
                rintro _ _ rfl
                iterate 3 refine AwOps.v hT rfl ?_
                refine AwOps.split (t := 41) rfl (fun hb41 => ?_) (fun hb41 => ?_)
                · skip
                  iterate 3 refine AwOps.v hT rfl ?_
                  refine AwOps.nil ?_
                  refine Aw.tst rfl (fun hb44 => ?_) (fun hb44 => ?_)
                  · skip
                    refine Aw.seq (Aw.region ?_)
                    refine AwOps.v hT rfl ?_
                    refine AwOps.nil ?_
                    refine Aw.ret ?_
                    refine ⟨_, [], rfl, trivial, ?_⟩
                    exact scb (labB_no (.inr (.inr (.inr (.inr (all_miss hlt1 (by rw [labP, bt_data hlt1, alnum_ld]; simp only [show (letterI (s.data.toList[i1].toNat : Int)) = false by simpa using hb36, show (digitI (s.data.toList[i1].toNat : Int)) = false by simpa using hb41, show ((s.data.toList[i1].toNat : Int) == 45) = false by simpa using hb44, Bool.true_and, Bool.false_and, Bool.true_or, Bool.false_or, Bool.or_true, Bool.and_true, Bool.or_false, Bool.and_false, Bool.not_true, Bool.not_false]))))))).symm
                  · skip
                    refine Aw.skip (Aw.region ?_)
                    refine AwOps.v hT rfl ?_
                    refine AwOps.v hT rfl ?_
                    refine AwOps.nil ?_
                    refine ⟨(i1 + 1), ?nx1, ?mu1, Less.tn ⟨rfl, ⟨incS hlt1 hB1, rfl, rfl, trivial⟩, ⟨rfl, trivial⟩⟩⟩
                    case nx1 =>
                      try dsimp only
                      exact ⟨hlt1, all_next hi1.2 (by rw [labP, bt_data hlt1, alnum_ld]; simp only [show (letterI (s.data.toList[i1].toNat : Int)) = false by simpa using hb36, show (digitI (s.data.toList[i1].toNat : Int)) = false by simpa using hb41, show ((s.data.toList[i1].toNat : Int) == 45) = true by simpa using hb44, Bool.true_and, Bool.false_and, Bool.true_or, Bool.false_or, Bool.or_true, Bool.and_true, Bool.or_false, Bool.and_false, Bool.not_true, Bool.not_false])⟩
                    case mu1 =>
                      try dsimp only
                      first | omega | (simp only [w64] at *; omega) | (simp [w64] at *; omega)
                · skip
                  iterate 3 refine AwOps.v hT rfl ?_
                  refine AwOps.nil (Aw.condF rfl (Aw.skip (Aw.region ?_)))
                  refine AwOps.v hT rfl ?_
                  refine AwOps.v hT rfl ?_
                  refine AwOps.nil ?_
                  refine ⟨(i1 + 1), ?nx1, ?mu1, Less.tn ⟨rfl, ⟨incS hlt1 hB1, rfl, rfl, trivial⟩, ⟨rfl, trivial⟩⟩⟩
                  case nx1 =>
                    try dsimp only
                    exact ⟨hlt1, all_next hi1.2 (by rw [labP, bt_data hlt1, alnum_ld]; simp only [show (letterI (s.data.toList[i1].toNat : Int)) = false by simpa using hb36, show (digitI (s.data.toList[i1].toNat : Int)) = true by simpa using hb41, Bool.true_and, Bool.false_and, Bool.true_or, Bool.false_or, Bool.or_true, Bool.and_true, Bool.or_false, Bool.and_false, Bool.not_true, Bool.not_false])⟩
                  case mu1 =>
                    try dsimp only
                    first | omega | (simp only [w64] at *; omega) | (simp [w64] at *; omega)
              · skip
                iterate 8 refine AwOps.v hT rfl ?_
                refine AwOps.nil (Aw.condF rfl (Aw.skip (Aw.region ?_)))
                refine AwOps.v hT rfl ?_
                refine AwOps.v hT rfl ?_
                refine AwOps.nil ?_
                refine ⟨(i1 + 1), ?nx1, ?mu1, Less.tn ⟨rfl, ⟨incS hlt1 hB1, rfl, rfl, trivial⟩, ⟨rfl, trivial⟩⟩⟩
                case nx1 =>
                  try dsimp only
                  exact ⟨hlt1, all_next hi1.2 (by rw [labP, bt_data hlt1, alnum_ld]; simp only [show (letterI (s.data.toList[i1].toNat : Int)) = true by simpa using hb36, Bool.true_and, Bool.false_and, Bool.true_or, Bool.false_or, Bool.or_true, Bool.and_true, Bool.or_false, Bool.and_false, Bool.not_true, Bool.not_false])⟩
                case mu1 =>
                  try dsimp only
                  first | omega | (simp only [w64] at *; omega) | (simp [w64] at *; omega)
            · skip
              refine Aw.exit (Aw.seq (Aw.region ?_))
              refine AwOps.v hT rfl ?_
              refine AwOps.nil ?_
              refine Aw.ret ?_
              refine ⟨_, [], rfl, trivial, ?_⟩
              exact scb (labB_ok hb8 hb13 hb18 hb25 (rall_full hi1.2 (by simpa using hb30) hi1.1)).symm
theorem splitSt_sz (s : ByteArray) (c : Int) : ∀ n, n ≤ s.size + 1 → (∀ x ∈ (splitSt s c n).1, x.size ≤ s.size)
  | 0, _ => fun x hx => by cases hx
  | n + 1, h => fun x hx => by
    rw [splitSt] at hx
    split at hx
    · rcases List.mem_append.1 hx with hx | hx
      · exact splitSt_sz s c n (by omega) x hx
      · rw [List.mem_singleton.1 hx, ByteArray.size_extract]; omega
    · exact splitSt_sz s c n (by omega) x hx
theorem splitS_sz {s : ByteArray} {c : Int} {x : ByteArray} (h : x ∈ splitS s c) : x.size ≤ s.size := splitSt_sz s c _ (Nat.le_refl _) x h
-- f193 certpath/host.DNS
theorem F193 (s : ByteArray) (hs : s.size ≤ 1073741824) : Fn Tryd.prog 70 [.pv (sc (.string s))] [] (fun r _ => r = sc (.bool (dnsB s))) := by
  refine Fn.intro (rs := [.tmp 2]) hT Tryd.func70 (by kernel_rfl) rfl rfl rfl rfl fun C => ?_
  refine Aw.seq (Aw.region ?_)
  refine AwOps.v hT rfl ?_
  refine AwOps.nil (Aw.seq (Aw.seq (Aw.region ?_)))
  iterate 3 refine AwOps.v hT rfl ?_
  refine AwOps.nil ?_
  refine Aw.tst rfl (fun hb7 => ?_) (fun hb7 => ?_)
  · skip
    refine Aw.seq (Aw.region ?_)
    refine AwOps.v hT rfl ?_
    refine AwOps.nil ?_
    refine Aw.ret ?_
    refine ⟨_, [], rfl, trivial, ?_⟩
    exact scb (by rw [dnsB, hb7]; rfl)
  · skip
    refine Aw.skip (Aw.seq (Aw.seq (Aw.region ?_)))
    refine AwOps.v hT rfl ?_
    refine AwOps.cl (F200 _ 46 (by first | omega | (simp only [ByteArray.size_extract, ByteArray.size_append, loI, hiI]; omega))) [] rfl ⟨⟨rfl, rfl⟩, ⟨rfl, rfl⟩, trivial⟩ trivial rfl ?_   -- strings.Split
    rintro _ _ rfl
    refine AwOps.turn (Less.say (t := 9) (B := .one (.p (.sl ((splitS s 46).map eStr)))) rfl rfl) ?_
    refine AwOps.v hT rfl ?_
    refine AwOps.v hT rfl ?_
    refine AwOps.nil (Aw.block ?_)
    refine Aw.bnd 9 rfl fun hB1 => ?_
    replace hB1 : (splitS s 46).length ≤ maxLen := by simpa using hB1
    refine Aw.lp (ι := Nat) (n := 19) [(9, _), (10, _)] [] (fun gq => [(11, sc (.int .i64 gq))]) (fun gq => []) (fun gq => gq ≤ (splitS s 46).length ∧ (((splitS s 46).take gq).all labB = true)) (fun gq => (splitS s 46).length - gq) (0) ?ok1 (Less.tn ⟨rfl, ⟨rfl, rfl, rfl, trivial⟩, trivial⟩) ?bd1
    case ok1 =>
      try dsimp only
      exact ⟨Nat.zero_le _, rfl⟩
    case bd1 =>
      intro i1 hi1
      try dsimp only at hi1
      show Aw _ _ _ ⟨19, [(11, sc (.int .i64 i1))] ++ [(9, _), (10, _)], [] ++ []⟩ _
      refine Aw.seq (Aw.region ?_)
      refine AwOps.v hT rfl ?_
      refine AwOps.nil (Aw.seq ?_)
      refine Aw.tst rfl (fun hb12 => ?_) (fun hb12 => ?_)
      · skip
        have hlt1 : i1 < (splitS s 46).length := by simpa using hb12
        refine Aw.skip (Aw.seq (Aw.block (Aw.seq (Aw.region ?_))))
        refine AwOps.im hT rfl hlt1 rfl ?_
        refine AwOps.v hT rfl ?_
        refine AwOps.v hT rfl ?_
        refine AwOps.nil (Aw.seq (Aw.region ?_))
        refine AwOps.v hT rfl ?_
        refine AwOps.cl (F201 _ (by have := splitS_sz (List.getElem_mem hlt1); omega)) [] rfl ⟨⟨rfl, rfl⟩, trivial⟩ trivial rfl ?_   -- host.label
        rintro _ _ rfl
        refine AwOps.v hT rfl ?_
        refine AwOps.nil ?_
        refine Aw.tst rfl (fun hb17 => ?_) (fun hb17 => ?_)
        · skip
          refine Aw.seq (Aw.region ?_)
          refine AwOps.v hT rfl ?_
          refine AwOps.nil ?_
          refine Aw.ret ?_
          refine ⟨_, [], rfl, trivial, ?_⟩
          exact scb (by rw [dnsB, all_bad hlt1 (by simpa using hb17)]; simp)
        · skip
          refine Aw.skip (Aw.region ?_)
          refine AwOps.v hT rfl ?_
          refine AwOps.v hT rfl ?_
          refine AwOps.nil ?_
          refine ⟨(i1 + 1), ?nx1, ?mu1, Less.tn ⟨rfl, ⟨incS hlt1 hB1, rfl, rfl, trivial⟩, trivial⟩⟩
          case nx1 =>
            try dsimp only
            exact ⟨hlt1, all_step hlt1 hi1.2 (by simpa using hb17)⟩
          case mu1 =>
            try dsimp only
            first | omega | (simp only [w64] at *; omega) | (simp [w64] at *; omega)
      · skip
        refine Aw.exit (Aw.seq (Aw.region ?_))
        refine AwOps.v hT rfl ?_
        refine AwOps.nil ?_
        refine Aw.ret ?_
        refine ⟨_, [], rfl, trivial, ?_⟩
        exact scb (by rw [dnsB, hb7, all_full hi1.2 (by simpa using hb12)]; rfl)
def memB (l : ByteArray) (c : Int) : Bool := decide (Lib.indexByte l.data.toList c.toNat.toUInt8 ≥ 0)
def locP (w : ByteArray) (i : Nat) : Bool := letterI (bt w i) || (digitI (bt w i) || memB mailC (bt w i))
theorem bnot_t {b : Bool} (h : (!b) = true) : b = false := by simpa using h
theorem bnot_f {b : Bool} (h : (!b) = false) : b = true := by simpa using h
def localB (w : ByteArray) : Bool := !(decide ((w.size : Int) < 1) || (decide ((w.size : Int) > 64) || (bt w 0 == 46 || (bt w (w.size - 1) == 46 || Lib.contains w.data.toList [46, 46])))) && (List.range w.size).all (locP w)
-- f192 certpath/host.local
theorem F192 (s : ByteArray) (hs : s.size ≤ 1073741824) : Fn Tryd.prog 69 [.pv (sc (.string s))] [] (fun r _ => r = sc (.bool (localB s))) := by
  refine Fn.intro (rs := [.tmp 2]) hT Tryd.func69 (by kernel_rfl) rfl rfl rfl rfl fun C => ?_
  refine Aw.seq (Aw.region ?_)
  refine AwOps.v hT rfl ?_
  refine AwOps.nil (Aw.seq (Aw.seq (Aw.region ?_)))
  iterate 4 refine AwOps.v hT rfl ?_
  refine AwOps.split (t := 9) rfl (fun hb9 => ?_) (fun hb9 => ?_)
  · skip
    iterate 21 refine AwOps.v hT rfl ?_
    refine AwOps.nil (Aw.condT rfl (Aw.seq (Aw.region ?_)))
    refine AwOps.v hT rfl ?_
    refine AwOps.nil ?_
    refine Aw.ret ?_
    refine ⟨_, [], rfl, trivial, ?_⟩
    exact scb (by rw [localB]; simp only [show (decide ((s.size : Int) < 1)) = true from hb9, Bool.true_and, Bool.false_and, Bool.true_or, Bool.false_or, Bool.or_true, Bool.and_true, Bool.or_false, Bool.and_false, Bool.not_true, Bool.not_false] <;> first | done | rfl | (simp; done))
  · skip
    have hx0 := of_decide_eq_false hb9
    iterate 5 refine AwOps.v hT rfl ?_
    refine AwOps.split (t := 14) rfl (fun hb14 => ?_) (fun hb14 => ?_)
    · skip
      iterate 16 refine AwOps.v hT rfl ?_
      refine AwOps.nil (Aw.condT rfl (Aw.seq (Aw.region ?_)))
      refine AwOps.v hT rfl ?_
      refine AwOps.nil ?_
      refine Aw.ret ?_
      refine ⟨_, [], rfl, trivial, ?_⟩
      exact scb (by rw [localB]; simp only [show (decide ((s.size : Int) < 1)) = false from hb9, show (decide ((s.size : Int) > 64)) = true from hb14, Bool.true_and, Bool.false_and, Bool.true_or, Bool.false_or, Bool.or_true, Bool.and_true, Bool.or_false, Bool.and_false, Bool.not_true, Bool.not_false] <;> first | done | rfl | (simp; done))
    · skip
      have hx1 := of_decide_eq_false hb14
      refine AwOps.v hT rfl ?_
      refine AwOps.byte hT rfl (by omega) (by omega) ?_
      iterate 3 refine AwOps.v hT rfl ?_
      refine AwOps.split (t := 19) rfl (fun hb19 => ?_) (fun hb19 => ?_)
      · skip
        iterate 11 refine AwOps.v hT rfl ?_
        refine AwOps.nil (Aw.condT rfl (Aw.seq (Aw.region ?_)))
        refine AwOps.v hT rfl ?_
        refine AwOps.nil ?_
        refine Aw.ret ?_
        refine ⟨_, [], rfl, trivial, ?_⟩
        exact scb (by rw [localB]; simp only [show (decide ((s.size : Int) < 1)) = false from hb9, show (decide ((s.size : Int) > 64)) = false from hb14, show (bt s 0 == 46) = true from hb19, Bool.true_and, Bool.false_and, Bool.true_or, Bool.false_or, Bool.or_true, Bool.and_true, Bool.or_false, Bool.and_false, Bool.not_true, Bool.not_false] <;> first | done | rfl | (simp; done))
      · skip
        iterate 4 refine AwOps.v hT rfl ?_
        first | refine AwOps.nm 23 rfl (by omega) (by omega) ?_ | skip
        refine AwOps.byte hT rfl (by omega) (by omega) ?_
        iterate 3 refine AwOps.v hT rfl ?_
        refine AwOps.split (t := 27) rfl (fun hb27 => ?_) (fun hb27 => ?_)
        · skip
          replace hb27 : (bt s (s.size - 1) == 46) = true := by rwa [show ((s.size : Int) - 1).toNat = s.size - 1 by omega] at hb27
          iterate 3 refine AwOps.v hT rfl ?_
          refine AwOps.nil (Aw.condT rfl (Aw.seq (Aw.region ?_)))
          refine AwOps.v hT rfl ?_
          refine AwOps.nil ?_
          refine Aw.ret ?_
          refine ⟨_, [], rfl, trivial, ?_⟩
          exact scb (by rw [localB]; simp only [show (decide ((s.size : Int) < 1)) = false from hb9, show (decide ((s.size : Int) > 64)) = false from hb14, show (bt s 0 == 46) = false from hb19, show (bt s (s.size - 1) == 46) = true from hb27, Bool.true_and, Bool.false_and, Bool.true_or, Bool.false_or, Bool.or_true, Bool.and_true, Bool.or_false, Bool.and_false, Bool.not_true, Bool.not_false] <;> first | done | rfl | (simp; done))
        · skip
          replace hb27 : (bt s (s.size - 1) == 46) = false := by rwa [show ((s.size : Int) - 1).toNat = s.size - 1 by omega] at hb27
          refine AwOps.v hT rfl ?_
          refine AwOps.cl (F196 _ _ (by first | omega | (simp only [ByteArray.size_extract, ByteArray.size_append, loI, hiI]; omega))) [] rfl ⟨⟨rfl, rfl⟩, ⟨rfl, rfl⟩, trivial⟩ trivial rfl ?_   -- strings.Contains
          rintro _ _ rfl
          refine AwOps.v hT rfl ?_
          refine AwOps.nil ?_
          refine Aw.tst rfl (fun hb30 => ?_) (fun hb30 => ?_)
          · skip
            refine Aw.seq (Aw.region ?_)
            refine AwOps.v hT rfl ?_
            refine AwOps.nil ?_
            refine Aw.ret ?_
            refine ⟨_, [], rfl, trivial, ?_⟩
            exact scb (by rw [localB]; simp only [show (decide ((s.size : Int) < 1)) = false from hb9, show (decide ((s.size : Int) > 64)) = false from hb14, show (bt s 0 == 46) = false from hb19, show (bt s (s.size - 1) == 46) = false from hb27, show (Lib.contains s.data.toList [46, 46]) = true from hb30, Bool.true_and, Bool.false_and, Bool.true_or, Bool.false_or, Bool.or_true, Bool.and_true, Bool.or_false, Bool.and_false, Bool.not_true, Bool.not_false] <;> first | done | rfl | (simp; done))
          · skip
            refine Aw.skip (Aw.seq (Aw.seq (Aw.region ?_)))
            refine AwOps.v hT rfl ?_
            refine AwOps.bytes hT rfl (Nat.le_trans hs (by decide)) ?_
            refine AwOps.v hT rfl ?_
            refine AwOps.v hT rfl ?_
            refine AwOps.nil (Aw.block ?_)
            have hB1 : s.data.toList.length ≤ maxLen := Nat.le_trans hs (by decide)
            refine Aw.lp (ι := Nat) (n := 50) [(32, _), (33, _)] [(32, _)] (fun gq => [(34, sc (.int .i64 gq))]) (fun gq => []) (fun gq => gq ≤ s.data.toList.length ∧ ((List.range gq).all (locP s) = true)) (fun gq => s.data.toList.length - gq) (0) ?ok1 (Less.tn ⟨rfl, ⟨rfl, rfl, rfl, trivial⟩, ⟨rfl, trivial⟩⟩) ?bd1
            case ok1 =>
              try dsimp only
              exact ⟨Nat.zero_le _, rfl⟩
            case bd1 =>
              intro i1 hi1
              try dsimp only at hi1
              show Aw _ _ _ ⟨50, [(34, sc (.int .i64 i1))] ++ [(32, _), (33, _)], [] ++ [(32, _)]⟩ _
              refine Aw.seq (Aw.region ?_)
              refine AwOps.v hT rfl ?_
              refine AwOps.nil (Aw.seq ?_)
              refine Aw.tst rfl (fun hb35 => ?_) (fun hb35 => ?_)
              · skip
                have hlt1 : i1 < s.data.toList.length := by simpa using hb35
                refine Aw.skip (Aw.seq (Aw.block (Aw.seq (Aw.region ?_))))
                refine AwOps.idxo hT rfl rfl (by omega) hlt1 ?_
                refine AwOps.ldo hT rfl rfl (eUn s.data.toList[i1]) (byte_at hlt1) rfl ?_
                refine AwOps.v hT rfl ?_
                refine AwOps.nil (Aw.seq (Aw.region ?_))
                refine AwOps.v hT rfl ?_
                refine AwOps.nil (Aw.seq (Aw.block (Aw.seq (Aw.block (Aw.seq (Aw.block (Aw.block (Aw.seq (Aw.seq (Aw.seq (Aw.region ?_)))))))))))
                refine AwOps.v hT rfl ?_
                refine AwOps.cl (F197 _) [] rfl ⟨⟨rfl, rfl⟩, trivial⟩ trivial rfl ?_   -- host.letter
                rintro _ _ rfl
                refine AwOps.v hT rfl ?_
                refine AwOps.nil ?_
                refine Aw.tst rfl (fun hb38 => ?_) (fun hb38 => ?_)
                · skip
                  refine Aw.exit (Aw.seq (Aw.region ?_))
                  refine AwOps.v hT rfl ?_
                  refine AwOps.nil (Aw.exit (Aw.seq (Aw.region ?_)))
                  refine AwOps.v hT rfl ?_
                  refine AwOps.v hT rfl ?_
                  refine AwOps.nil (Aw.condF rfl (Aw.skip (Aw.region ?_)))
                  refine AwOps.v hT rfl ?_
                  refine AwOps.v hT rfl ?_
                  refine AwOps.nil ?_
                  refine ⟨(i1 + 1), ?nx1, ?mu1, Less.tn ⟨rfl, ⟨incS hlt1 hB1, rfl, rfl, trivial⟩, ⟨rfl, trivial⟩⟩⟩
                  case nx1 =>
                    try dsimp only
                    exact ⟨hlt1, all_next hi1.2 (by rw [locP, bt_data hlt1]; simp only [show (letterI (s.data.toList[i1].toNat : Int)) = true from hb38, Bool.true_and, Bool.false_and, Bool.true_or, Bool.false_or, Bool.or_true, Bool.and_true, Bool.or_false, Bool.and_false, Bool.not_true, Bool.not_false])⟩
                  case mu1 =>
                    try dsimp only
                    first | omega | (simp only [w64] at *; omega) | (simp [w64] at *; omega)
                · skip
                  refine Aw.skip (Aw.seq (Aw.region ?_))
                  refine AwOps.v hT rfl ?_
                  refine AwOps.cl (F198 _) [] rfl ⟨⟨rfl, rfl⟩, trivial⟩ trivial rfl ?_   -- host.digit
                  rintro _ _ rfl
                  refine AwOps.v hT rfl ?_
                  refine AwOps.nil ?_
                  refine Aw.tst rfl (fun hb41 => ?_) (fun hb41 => ?_)
                  · skip
                    refine Aw.exit (Aw.seq (Aw.region ?_))
                    refine AwOps.v hT rfl ?_
                    refine AwOps.nil (Aw.exit (Aw.seq (Aw.region ?_)))
                    refine AwOps.v hT rfl ?_
                    refine AwOps.v hT rfl ?_
                    refine AwOps.nil (Aw.condF rfl (Aw.skip (Aw.region ?_)))
                    refine AwOps.v hT rfl ?_
                    refine AwOps.v hT rfl ?_
                    refine AwOps.nil ?_
                    refine ⟨(i1 + 1), ?nx1, ?mu1, Less.tn ⟨rfl, ⟨incS hlt1 hB1, rfl, rfl, trivial⟩, ⟨rfl, trivial⟩⟩⟩
                    case nx1 =>
                      try dsimp only
                      exact ⟨hlt1, all_next hi1.2 (by rw [locP, bt_data hlt1]; simp only [show (letterI (s.data.toList[i1].toNat : Int)) = false from hb38, show (digitI (s.data.toList[i1].toNat : Int)) = true from hb41, Bool.true_and, Bool.false_and, Bool.true_or, Bool.false_or, Bool.or_true, Bool.and_true, Bool.or_false, Bool.and_false, Bool.not_true, Bool.not_false])⟩
                    case mu1 =>
                      try dsimp only
                      first | omega | (simp only [w64] at *; omega) | (simp [w64] at *; omega)
                  · skip
                    refine Aw.skip (Aw.exit (Aw.seq (Aw.region ?_)))
                    refine AwOps.v hT rfl ?_
                    refine AwOps.cl (F199 _ _) [] rfl ⟨⟨rfl, rfl⟩, ⟨rfl, rfl⟩, trivial⟩ trivial rfl ?_   -- strings.IndexByte
                    rintro _ _ rfl
                    refine AwOps.v hT rfl ?_
                    refine AwOps.v hT rfl ?_
                    refine AwOps.nil (Aw.exit (Aw.seq (Aw.region ?_)))
                    refine AwOps.v hT rfl ?_
                    refine AwOps.v hT rfl ?_
                    refine AwOps.nil ?_
                    refine Aw.tst rfl (fun hb48 => ?_) (fun hb48 => ?_)
                    · skip
                      refine Aw.seq (Aw.region ?_)
                      refine AwOps.v hT rfl ?_
                      refine AwOps.nil ?_
                      refine Aw.ret ?_
                      refine ⟨_, [], rfl, trivial, ?_⟩
                      exact scb (by rw [localB, all_miss (n := s.size) hlt1 (by rw [locP, bt_data hlt1]; simp only [show (letterI (s.data.toList[i1].toNat : Int)) = false from hb38, show (digitI (s.data.toList[i1].toNat : Int)) = false from hb41, show (memB mailC (s.data.toList[i1].toNat : Int)) = false from bnot_t hb48, Bool.true_and, Bool.false_and, Bool.true_or, Bool.false_or, Bool.or_true, Bool.and_true, Bool.or_false, Bool.and_false, Bool.not_true, Bool.not_false])]; simp)
                    · skip
                      refine Aw.skip (Aw.region ?_)
                      refine AwOps.v hT rfl ?_
                      refine AwOps.v hT rfl ?_
                      refine AwOps.nil ?_
                      refine ⟨(i1 + 1), ?nx1, ?mu1, Less.tn ⟨rfl, ⟨incS hlt1 hB1, rfl, rfl, trivial⟩, ⟨rfl, trivial⟩⟩⟩
                      case nx1 =>
                        try dsimp only
                        exact ⟨hlt1, all_next hi1.2 (by rw [locP, bt_data hlt1]; simp only [show (letterI (s.data.toList[i1].toNat : Int)) = false from hb38, show (digitI (s.data.toList[i1].toNat : Int)) = false from hb41, show (memB mailC (s.data.toList[i1].toNat : Int)) = true from bnot_f hb48, Bool.true_and, Bool.false_and, Bool.true_or, Bool.false_or, Bool.or_true, Bool.and_true, Bool.or_false, Bool.and_false, Bool.not_true, Bool.not_false])⟩
                      case mu1 =>
                        try dsimp only
                        first | omega | (simp only [w64] at *; omega) | (simp [w64] at *; omega)
              · skip
                refine Aw.exit (Aw.seq (Aw.region ?_))
                refine AwOps.v hT rfl ?_
                refine AwOps.nil ?_
                refine Aw.ret ?_
                refine ⟨_, [], rfl, trivial, ?_⟩
                exact scb (by rw [localB, rall_full (n := s.size) hi1.2 (by simpa using hb35) hi1.1]; simp only [show (decide ((s.size : Int) < 1)) = false from hb9, show (decide ((s.size : Int) > 64)) = false from hb14, show (bt s 0 == 46) = false from hb19, show (bt s (s.size - 1) == 46) = false from hb27, show (Lib.contains s.data.toList [46, 46]) = false from hb30, Bool.true_and, Bool.false_and, Bool.true_or, Bool.false_or, Bool.or_true, Bool.and_true, Bool.or_false, Bool.and_false, Bool.not_true, Bool.not_false] <;> first | done | rfl | (simp; done))
theorem idx_spec (c : UInt8) : ∀ (l : List UInt8), (Lib.index l [c] = -1 ∧ ∀ (j : Nat) (h : j < l.length), l[j] ≠ c) ∨ (∃ i : Nat, Lib.index l [c] = i ∧ ∃ h : i < l.length, l[i] = c ∧ ∀ (j : Nat) (hj : j < l.length), j < i → l[j] ≠ c)
  | [] => .inl ⟨rfl, fun j h => by simp at h⟩
  | x :: l => by
    rw [idx_cons]
    by_cases hx : (x == c) = true
    · rw [if_pos hx]
      exact .inr ⟨0, rfl, by simp, by simpa using hx, fun j hj h => by omega⟩
    · rw [if_neg hx]
      have hne : x ≠ c := by simpa using hx
      rcases idx_spec c l with ⟨h, hall⟩ | ⟨i, h, hl, hc, hall⟩
      · refine .inl ⟨by simp [h], fun j hj => ?_⟩
        match j, hj with
        | 0, _ => exact hne
        | j + 1, hj => exact hall j (by simpa using hj)
      · refine .inr ⟨i + 1, by rw [if_neg (by rw [h]; simp <;> omega), h]; rfl, by simp; exact hl, by simpa using hc, fun j hj hji => ?_⟩
        match j, hj, hji with
        | 0, _, _ => exact hne
        | j + 1, hj, hji => exact hall j (by simpa using hj) (by omega)
theorem idxB_mem (l : List UInt8) (c : UInt8) : decide (Lib.indexByte l c ≥ 0) = l.any (fun b => b == c) := by
  induction l with
  | nil => rfl
  | cons b l ih =>
    rw [Lib.indexByte, List.any_cons]
    have hg := Lib.indexByte_ge l c
    by_cases hb : (b == c) = true
    · rw [if_pos hb, hb]; rfl
    · rw [if_neg hb, Bool.eq_false_iff.2 hb, Bool.false_or, ← ih]
      by_cases hm : (Lib.indexByte l c == -1) = true
      · rw [if_pos hm, beq_iff_eq.1 hm]
      · rw [if_neg hm]
        have : Lib.indexByte l c ≠ -1 := by simpa using hm
        congr 1
        apply propext
        omega
theorem among_mem (c : UInt8) : ∀ (L : List UInt8), ((List.range L.length).any fun i => ((L[i]?.getD 0).toNat : Int) == (c.toNat : Int)) = L.any (fun b => b == c)
  | L => by
    apply Bool.eq_iff_iff.2
    simp only [List.any_eq_true, List.mem_range, beq_iff_eq]
    constructor
    · rintro ⟨i, hi, h⟩
      refine ⟨L[i], List.getElem_mem hi, UInt8.toNat_inj.1 ?_⟩
      rw [List.getElem?_eq_getElem hi] at h
      have h' : ((L[i].toNat : Nat) : Int) = (c.toNat : Int) := h
      omega
    · rintro ⟨b, hb, rfl⟩
      obtain ⟨i, hi, rfl⟩ := List.mem_iff_getElem.1 hb
      exact ⟨i, hi, by rw [List.getElem?_eq_getElem hi]; rfl⟩
theorem memB_among {s : ByteArray} {i : Nat} (h : i < s.data.toList.length) : memB mailC (bt s i) = amongB (bt s i) mailC := by
  rw [bt_data h]
  have e1 : memB mailC (s.data.toList[i].toNat : Int) = decide (Lib.indexByte mailC.data.toList s.data.toList[i] ≥ 0) := by simp [memB]
  rw [e1, idxB_mem, ← among_mem]
  rfl
theorem atI_pre {s : ByteArray} : ∀ k : Nat, k ≤ s.size → (∀ j, j < k → (bt s j != 64) = true) → atI s k = k
  | 0, _, _ => rfl
  | k + 1, hk, h => atI_go (atI_pre k (by omega) fun j hj => h j (by omega)) (h k (by omega))
theorem bt_ne {s : ByteArray} {j : Nat} (h : j < s.data.toList.length) (hc : s.data.toList[j] ≠ 64) : (bt s j != 64) = true := by
  rw [bt_data h]
  have : ¬ s.data.toList[j].toNat = 64 := fun e => hc (UInt8.toNat_inj.1 e)
  exact bne_iff_ne.2 fun e => this (by omega)
theorem atK_none {s : ByteArray} (h : Lib.index s.data.toList [64] = -1) : atK s = s.size := by
  have hlen : s.data.toList.length = s.size := Array.length_toList
  rcases idx_spec 64 s.data.toList with ⟨_, hall⟩ | ⟨i, hi, _⟩
  · exact atI_pre _ (Nat.le_refl _) fun j hj => bt_ne (by omega) (hall j (by omega))
  · omega
theorem atK_some {s : ByteArray} {i : Nat} (h : Lib.index s.data.toList [64] = i) : atK s = i ∧ ∃ hl : i < s.data.toList.length, s.data.toList[i] = 64 := by
  have hlen : s.data.toList.length = s.size := Array.length_toList
  rcases idx_spec 64 s.data.toList with ⟨h', _⟩ | ⟨k, hk, hl, hc, hall⟩
  · omega
  · obtain rfl : k = i := by omega
    refine ⟨atI_at (atI_pre _ (by omega) fun j hj => bt_ne (by omega) (hall j (by omega) hj)) ?_ s.size (by omega), hl, hc⟩
    rw [bt_data hl, hc]
    rfl
theorem dots (W : List UInt8) : Lib.contains W [46, 46] = (List.range (W.length - 1)).any fun j => ((W[j]?.getD 0).toNat : Int) == 46 && ((W[j + 1]?.getD 0).toNat : Int) == 46 := by
  have occ : ∀ i, i + 2 ≤ W.length → (Lib.occAt W [46, 46] i = true ↔ (((W[i]?.getD 0).toNat : Int) = 46 ∧ ((W[i + 1]?.getD 0).toNat : Int) = 46)) := by
    intro i hi
    have h1 : i < W.length := by omega
    have h2 : i + 1 < W.length := by omega
    rw [Lib.occAt_iff_take W [46, 46] i (by simpa using hi), List.drop_eq_getElem_cons h1, List.drop_eq_getElem_cons h2, List.getElem?_eq_getElem h1, List.getElem?_eq_getElem h2]
    have e1 : ∀ b : UInt8, ((b.toNat : Int) = 46 ↔ b = 46) := fun b => ⟨fun h => UInt8.toNat_inj.1 (by show b.toNat = 46; omega), fun h => by rw [h]; rfl⟩
    simp only [Option.getD_some, e1]
    have e2 : List.take ([46, 46] : List UInt8).length (W[i] :: W[i + 1] :: List.drop (i + 1 + 1) W) = [W[i], W[i + 1]] := rfl
    rw [e2]
    simp only [beq_iff_eq, List.cons.injEq, and_true]
  apply Bool.eq_iff_iff.2
  rw [Lib.contains, decide_eq_true_eq, List.any_eq_true]
  constructor
  · intro h
    have hr := Lib.index_room W [46, 46] h
    rcases Lib.index_spec W [46, 46] with ⟨e, _⟩ | ⟨i, e, hi, ho, _⟩
    · omega
    · have hi2 : i + 2 ≤ W.length := by rw [e] at hr; simp only [List.length_cons, List.length_nil] at hr; omega
      have := (occ i hi2).1 ho
      exact ⟨i, List.mem_range.2 (by omega), by rw [Bool.and_eq_true]; exact ⟨beq_iff_eq.2 this.1, beq_iff_eq.2 this.2⟩⟩
  · rintro ⟨j, hj, h⟩
    rw [List.mem_range] at hj
    rw [Bool.and_eq_true] at h
    have ho := (occ j (by omega)).2 ⟨beq_iff_eq.1 h.1, beq_iff_eq.1 h.2⟩
    rcases Lib.index_spec W [46, 46] with ⟨_, hall⟩ | ⟨i, e, _⟩
    · rw [hall j (by omega)] at ho; exact Bool.noConfusion ho
    · omega
theorem bt_ext {s : ByteArray} {k j : Nat} (h : j < k) : bt (s.extract 0 k) j = bt s j := by
  unfold bt
  rw [ext_data, List.drop_zero, List.getElem?_take_of_lt h]
theorem local_iff {s : ByteArray} {k : Nat} (hk : k ≤ s.size) : localB (s.extract 0 k) = true ↔ 1 ≤ k ∧ k ≤ 64 ∧ bt s 0 ≠ 46 ∧ bt s (k - 1) ≠ 46 ∧ (∀ j, j + 1 < k → ¬ (bt s j = 46 ∧ bt s (j + 1) = 46)) ∧ ∀ j, j < k → (alnumI (bt s j) = true ∨ amongB (bt s j) mailC = true) := by
  have hsz : (s.extract 0 k).size = k := by rw [ByteArray.size_extract]; omega
  have hlen : s.data.toList.length = s.size := Array.length_toList
  have hl2 : (s.extract 0 k).data.toList.length = k := by rw [ext_data]; simp [hlen]; omega
  rw [localB, hsz, dots, hl2]
  simp only [Bool.and_eq_true, Bool.not_eq_true', Bool.or_eq_false_iff, List.all_eq_true, List.any_eq_false, List.mem_range, decide_eq_false_iff_not, beq_eq_false_iff_ne]
  constructor
  · rintro ⟨⟨h1, h2, h3, h4, h5⟩, h6⟩
    have hk1 : 1 ≤ k := by omega
    refine ⟨hk1, by omega, ?_, ?_, fun j hj hc => ?_, fun j hj => ?_⟩
    · rw [bt_ext (by omega)] at h3; exact h3
    · rw [bt_ext (by omega)] at h4; exact h4
    · refine h5 j (by omega) ?_
      have e1 : (((s.extract 0 k).data.toList[j]?.getD 0).toNat : Int) = bt s j := bt_ext (by omega)
      have e2 : (((s.extract 0 k).data.toList[j + 1]?.getD 0).toNat : Int) = bt s (j + 1) := bt_ext (by omega)
      rw [e1, e2, hc.1, hc.2]
      exact ⟨rfl, rfl⟩
    · have := h6 j hj
      rw [locP, bt_ext hj, memB_among (by omega), ← Bool.or_assoc, ← alnum_ld, Bool.or_eq_true] at this
      exact this
  · rintro ⟨h1, h2, h3, h4, h5, h6⟩
    refine ⟨⟨by omega, by omega, by rw [bt_ext (by omega)]; exact h3, by rw [bt_ext (by omega)]; exact h4, fun j hj => ?_⟩, fun j hj => ?_⟩
    · have e1 : (((s.extract 0 k).data.toList[j]?.getD 0).toNat : Int) = bt s j := bt_ext (by omega)
      have e2 : (((s.extract 0 k).data.toList[j + 1]?.getD 0).toNat : Int) = bt s (j + 1) := bt_ext (by omega)
      rw [e1, e2]
      intro hc
      exact h5 j (by omega) ⟨by simpa using hc.1, by simpa using hc.2⟩
    · rw [locP, bt_ext hj, memB_among (by omega), ← Bool.or_assoc, ← alnum_ld, Bool.or_eq_true]
      exact h6 j hj
def hostMailB (s : ByteArray) : Bool := (Lib.cut s.data.toList [64]).2.2 && (decide ((s.size : Int) ≤ 128) && (localB ⟨(Lib.cut s.data.toList [64]).1.toArray⟩ && dnsB ⟨(Lib.cut s.data.toList [64]).2.1.toArray⟩))
theorem cut_some {s : ByteArray} {i : Nat} (h : Lib.index s.data.toList [64] = i) : (⟨(Lib.cut s.data.toList [64]).1.toArray⟩ : ByteArray) = s.extract 0 i ∧ (⟨(Lib.cut s.data.toList [64]).2.1.toArray⟩ : ByteArray) = s.extract (i + 1) s.size ∧ (Lib.cut s.data.toList [64]).2.2 = true := by
  have hlen : s.data.toList.length = s.size := Array.length_toList
  have e : Lib.cut s.data.toList [64] = (s.data.toList.take i, s.data.toList.drop (i + 1), true) := by rw [Lib.cut, h, if_pos (by omega)]; rfl
  rw [e]
  refine ⟨data_inj ?_, data_inj ?_, rfl⟩
  · rw [ext_data]; simp
  · rw [ext_data, ← hlen, List.take_length]
theorem cut_none {s : ByteArray} (h : Lib.index s.data.toList [64] = -1) : (Lib.cut s.data.toList [64]).2.2 = false := by rw [Lib.cut, h]; rfl
theorem mail_eq (s : ByteArray) : hostMailB s = partsOk s := by
  have hlen : s.data.toList.length = s.size := Array.length_toList
  have hg := Lib.index_ge s.data.toList [64]
  by_cases hm : Lib.index s.data.toList [64] = -1
  · rw [hostMailB, cut_none hm, partsOk, atK_none hm]
    simp
  · obtain ⟨i, hi⟩ : ∃ i : Nat, Lib.index s.data.toList [64] = i := ⟨(Lib.index s.data.toList [64]).toNat, by omega⟩
    obtain ⟨hK, hl, h64⟩ := atK_some hi
    obtain ⟨c1, c2, c3⟩ := cut_some hi
    have hb64 : bt s i ≠ 46 := by rw [bt_data hl, h64]; decide
    rw [hostMailB, c1, c2, c3, partsOk, hK]
    apply Bool.eq_iff_iff.2
    simp only [Bool.true_and, Bool.and_eq_true, local_iff (Nat.le_of_lt (hlen ▸ hl)), Bool.not_eq_true', Bool.or_eq_false_iff, List.all_eq_true, List.mem_range, decide_eq_false_iff_not, decide_eq_true_eq, beq_eq_false_iff_ne, Bool.not_eq_false', locX]
    constructor
    · rintro ⟨h0, ⟨h1, h2, h3, h4, h5, h6⟩, hd⟩
      refine ⟨by omega, ⟨by omega, by omega, by omega, hd, h3, h4⟩, fun j hj => ?_⟩
      refine ⟨?_, ?_⟩
      · rcases h6 j hj with h | h <;> rw [h] <;> simp
      · rw [Bool.and_eq_false_iff]
        by_cases hc : bt s j = 46
        · right
          by_cases hj1 : j + 1 < i
          · exact beq_eq_false_iff_ne.2 fun h => h5 j hj1 ⟨hc, h⟩
          · rw [show j + 1 = i by omega]; exact beq_eq_false_iff_ne.2 hb64
        · left; exact beq_eq_false_iff_ne.2 hc
    · rintro ⟨h0, ⟨h1, h2, h3, hd, h4, h5⟩, h6⟩
      refine ⟨by omega, ⟨by omega, by omega, h4, h5, fun j hj hc => ?_, fun j hj => ?_⟩, hd⟩
      · have := h6 j (by omega)
        rw [hc.1, hc.2] at this
        simp at this
      · have := h6 j hj
        have h7 := this.1
        cases ha : alnumI (bt s j)
        · rw [ha] at h7; right; simpa using h7
        · left; rfl
theorem partL_cut {s : ByteArray} (h : partsOk s = true) : (⟨(Lib.cut s.data.toList [64]).1.toArray⟩ : ByteArray) = partL s ∧ (⟨(Lib.cut s.data.toList [64]).2.1.toArray⟩ : ByteArray) = partD s := by
  have hg := Lib.index_ge s.data.toList [64]
  by_cases hm : Lib.index s.data.toList [64] = -1
  · rw [← mail_eq, hostMailB, cut_none hm] at h
    exact Bool.noConfusion h
  · obtain ⟨i, hi⟩ : ∃ i : Nat, Lib.index s.data.toList [64] = i := ⟨(Lib.index s.data.toList [64]).toNat, by omega⟩
    obtain ⟨hK, _⟩ := atK_some hi
    obtain ⟨c1, c2, _⟩ := cut_some hi
    rw [c1, c2, partL, partD, if_pos h, if_pos h, hK]
    exact ⟨rfl, rfl⟩
end Go.Proofs.YtbdgmondalkhlaaDoor.Aw
