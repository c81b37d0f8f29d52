
/- The walks of text's folding.
   Conditions: none. -/
import Derived.Test.YtbdgmondalkhlaaDoorWkBase
import Derived.Test.YtbdgmondalkhlaaDoorAwSlice
namespace Go.Proofs.YtbdgmondalkhlaaDoor.Aw
open Go
set_option maxRecDepth 100000

def low (c : UInt8) : UInt8 := if 65 ≤ c.toNat ∧ c.toNat ≤ 90 then c + 32 else c
def tfStep (st : List UInt8 × Bool) (c : UInt8) : List UInt8 × Bool :=
  if c.toNat = 32 then (st.1, decide (0 < st.1.length)) else ((if st.2 then st.1 ++ [32] else st.1) ++ [low c], false)
def tfold (s : List UInt8) : List UInt8 × Bool := s.foldl tfStep ([], false)
theorem tfold_next {s : List UInt8} {i : Nat} (h : i < s.length) : tfold (s.take (i + 1)) = tfStep (tfold (s.take i)) s[i] := by
  rw [tfold, List.take_succ_eq_append_getElem h, List.foldl_append]
  rfl
theorem tfold_len (s : List UInt8) : (tfold s).1.length + (tfold s).2.toNat ≤ s.length := by
  suffices h : ∀ (s : List UInt8) (st : List UInt8 × Bool) (k : Nat), st.1.length + st.2.toNat ≤ k → (s.foldl tfStep st).1.length + (s.foldl tfStep st).2.toNat ≤ k + s.length by
    have := h s ([], false) 0 (by simp)
    rwa [Nat.zero_add] at this
  intro s
  induction s with
  | nil => intro st k h; exact h
  | cons c s ih =>
    intro st k h
    have := ih (tfStep st c) (k + 1) (by
      obtain ⟨o, g⟩ := st
      unfold tfStep
      split
      · have := Bool.toNat_le (decide (0 < o.length))
        simp only at h ⊢
        omega
      · cases g <;> simp at h ⊢ <;> omega)
    simp only [List.foldl_cons, List.length_cons]
    omega
theorem len_one {p : PL} : ∀ f ∈ [[p]], f.length = 1 := by
  intro f hf
  simp at hf
  subst hf
  rfl
theorem u8_low {c : UInt8} (h1 : 65 ≤ c.toNat) (h2 : c.toNat ≤ 90) : IntKind.wrap .u8 ((c.toNat : Int) + 32) = ((low c).toNat : Int) := by
  have e : IntKind.wrap .u8 ((c.toNat : Int) + 32) = ((c.toNat : Int) + 32) % 256 := rfl
  rw [e, low, if_pos ⟨h1, h2⟩]
  simp [UInt8.toNat_add]
theorem eU_get {xs : List UInt8} {i : Nat} (h : i < xs.length) : (eU xs)[i]? = some (eUn xs[i]) := by rw [eU, List.getElem?_map, List.getElem?_eq_getElem h]; rfl
theorem eU_len (xs : List UInt8) : (eU xs).length = xs.length := by simp [eU]
theorem lim1 {xs : List UInt8} {k : Nat} {p : List PL} (h : xs.length + k ≤ 1073741824) : ((eU xs).length + [p].length) * 1 ≤ 140737488355328 := by
  rw [eU_len]
  simp
  omega
theorem eU_app (xs ys : List UInt8) : eU xs ++ eU ys = eU (xs ++ ys) := by simp [eU]
theorem u8_of {c : UInt8} {k : Nat} (h : ((c.toNat : Int) == (k : Int)) = true) : c.toNat = k := by simp at h; omega
theorem u8_ne {c : UInt8} {k : Nat} (h : ((c.toNat : Int) == (k : Int)) = false) : ¬ c.toNat = k := by simp at h; omega
theorem F110 (x : ByteArray) (hx : x.size ≤ 1073741824) : Fn Tryd.prog 89 [.pv (sc (.string x))] [] (fun z _ => z = sc (.string (bS (tfold x.data.toList).1))) := by
  refine Fn.intro (rs := [.tmp 2]) hT Tryd.func89 (by kernel_rfl) rfl rfl rfl rfl fun C => ?_
  repeat (first | refine AwOps.v hT rfl ?_ | refine AwOps.eff hT rfl ?_ | refine AwOps.nil ?_ | refine Aw.seq ?_ | refine Aw.region ?_ | refine Aw.block ?_ | refine Aw.skip ?_ | refine Aw.exit ?_ | refine Aw.condT rfl ?_ | refine Aw.condF rfl ?_ | refine AwOps.build hT rfl ?_ | refine AwOps.lit hT rfl ?_ | refine AwSch.take (Yd.val hT rfl rfl) ?_ | refine AwSch.take (Yd.build hT rfl) ?_ | refine AwSch.nil ?_)
  refine AwOps.bytes hT rfl (Nat.le_trans hx (by decide)) ?_
  repeat (first | refine AwOps.v hT rfl ?_ | refine AwOps.eff hT rfl ?_ | refine AwOps.nil ?_ | refine Aw.seq ?_ | refine Aw.region ?_ | refine Aw.block ?_ | refine Aw.skip ?_ | refine Aw.exit ?_ | refine Aw.condT rfl ?_ | refine Aw.condF rfl ?_ | refine AwOps.build hT rfl ?_ | refine AwOps.lit hT rfl ?_ | refine AwSch.take (Yd.val hT rfl rfl) ?_ | refine AwSch.take (Yd.build hT rfl) ?_ | refine AwSch.nil ?_)
  refine Aw.turn (Tn.own 3 900 5 1 rfl (by decide) (by decide) rfl) ?_
  have hl : x.data.toList.length ≤ maxLen := Nat.le_trans hx (by decide)
  refine Aw.lp (ι := Nat × List UInt8 × Bool) (n := 38) [(8, _), (9, _)] [(8, _)] (fun i => [(3, .one (.own 900 i.2.1.length)), (4, sc (.bool i.2.2)), (10, sc (.int .i64 i.1))])
    (fun i => [(900, .row 5 1 true (eU i.2.1))]) (fun i => i.1 ≤ x.data.toList.length ∧ tfold (x.data.toList.take i.1) = i.2) (fun i => x.data.toList.length - i.1) (0, [], false) (by simp [tfold]) (Less.tn ⟨rfl, ⟨rfl, rfl, rfl, rfl, rfl, trivial⟩, ⟨rfl, rfl, trivial⟩⟩) ?_
  rintro ⟨i, out, gap⟩ ⟨hi, hst⟩
  simp only at hi hst
  repeat (first | refine AwOps.v hT rfl ?_ | refine AwOps.eff hT rfl ?_ | refine AwOps.nil ?_ | refine Aw.seq ?_ | refine Aw.region ?_ | refine Aw.block ?_ | refine Aw.skip ?_ | refine Aw.exit ?_ | refine Aw.condT rfl ?_ | refine Aw.condF rfl ?_ | refine AwOps.build hT rfl ?_ | refine AwOps.lit hT rfl ?_ | refine AwSch.take (Yd.val hT rfl rfl) ?_ | refine AwSch.take (Yd.build hT rfl) ?_ | refine AwSch.nil ?_)
  refine Aw.tst rfl (fun hb1 => ?_) (fun hb1 => ?_)
  · have hlt : i < x.data.toList.length := by simpa using hb1
    repeat (first | refine AwOps.v hT rfl ?_ | refine AwOps.eff hT rfl ?_ | refine AwOps.nil ?_ | refine Aw.seq ?_ | refine Aw.region ?_ | refine Aw.block ?_ | refine Aw.skip ?_ | refine Aw.exit ?_ | refine Aw.condT rfl ?_ | refine Aw.condF rfl ?_ | refine AwOps.build hT rfl ?_ | refine AwOps.lit hT rfl ?_ | refine AwSch.take (Yd.val hT rfl rfl) ?_ | refine AwSch.take (Yd.build hT rfl) ?_ | refine AwSch.nil ?_)
    refine AwOps.idxo hT rfl rfl (by omega) hlt ?_
    refine AwOps.ldo hT rfl rfl (eUn x.data.toList[i]) (eU_get hlt) rfl ?_
    have hnx := tfold_next hlt
    have hlen := tfold_len (x.data.toList.take i)
    rw [hst] at hnx hlen
    simp only at hlen
    have hlen2 : out.length + gap.toNat ≤ 1073741824 := by
      have h1 : x.data.toList.length = x.size := rfl
      have h2 := hlen
      rw [List.length_take] at h2
      omega
    generalize hc : x.data.toList[i] = c at *
    repeat (first | refine AwOps.v hT rfl ?_ | refine AwOps.eff hT rfl ?_ | refine AwOps.nil ?_ | refine Aw.seq ?_ | refine Aw.region ?_ | refine Aw.block ?_ | refine Aw.skip ?_ | refine Aw.exit ?_ | refine Aw.condT rfl ?_ | refine Aw.condF rfl ?_ | refine AwOps.build hT rfl ?_ | refine AwOps.lit hT rfl ?_ | refine AwSch.take (Yd.val hT rfl rfl) ?_ | refine AwSch.take (Yd.build hT rfl) ?_ | refine AwSch.nil ?_)
    refine Aw.tst rfl (fun hb2 => ?_) (fun hb2 => ?_)
    · have hc32 : c.toNat = 32 := u8_of hb2
      repeat (first | refine AwOps.v hT rfl ?_ | refine AwOps.eff hT rfl ?_ | refine AwOps.nil ?_ | refine Aw.seq ?_ | refine Aw.region ?_ | refine Aw.block ?_ | refine Aw.skip ?_ | refine Aw.exit ?_ | refine Aw.condT rfl ?_ | refine Aw.condF rfl ?_ | refine AwOps.build hT rfl ?_ | refine AwOps.lit hT rfl ?_ | refine AwSch.take (Yd.val hT rfl rfl) ?_ | refine AwSch.take (Yd.build hT rfl) ?_ | refine AwSch.nil ?_)
      refine ⟨(i + 1, out, decide (0 < out.length)), ⟨hlt, by rw [hnx, tfStep, if_pos hc32]⟩, by simp only; omega, Less.tn ⟨rfl, ⟨rfl, ?_, incS hlt hl, rfl, rfl, trivial⟩, ⟨rfl, rfl, trivial⟩⟩⟩
      show some (sc (.bool (decide (((out.length : Nat) : Int) > 0)))) = _
      simp
    · have hc32 : ¬ c.toNat = 32 := u8_ne hb2
      repeat (first | refine AwOps.v hT rfl ?_ | refine AwOps.eff hT rfl ?_ | refine AwOps.nil ?_ | refine Aw.seq ?_ | refine Aw.region ?_ | refine Aw.block ?_ | refine Aw.skip ?_ | refine Aw.exit ?_ | refine Aw.condT rfl ?_ | refine Aw.condF rfl ?_ | refine AwOps.build hT rfl ?_ | refine AwOps.lit hT rfl ?_ | refine AwSch.take (Yd.val hT rfl rfl) ?_ | refine AwSch.take (Yd.build hT rfl) ?_ | refine AwSch.nil ?_)
      refine Aw.join (fun σ' => Tn σ' ⟨38, [(3, .one (.own 900 (if gap then out ++ [32] else out).length)), (4, sc (.bool false)), (6, sc (.int .u8 (c.toNat : Int))), (10, sc (.int .i64 i)), (8, .one (.own 8 x.data.toList.length)), (9, sc (.int .i64 x.data.toList.length))],
        [(900, .row 5 1 true (eU (if gap then out ++ [32] else out))), (8, .row 5 1 false (eU x.data.toList))]⟩) ?_ ?_
      · refine Aw.tst rfl (fun hb3 => ?_) (fun hb3 => ?_)
        · simp only at hb3
          subst hb3
          repeat (first | refine AwOps.v hT rfl ?_ | refine AwOps.eff hT rfl ?_ | refine AwOps.nil ?_ | refine Aw.seq ?_ | refine Aw.region ?_ | refine Aw.block ?_ | refine Aw.skip ?_ | refine Aw.exit ?_ | refine Aw.condT rfl ?_ | refine Aw.condF rfl ?_ | refine AwOps.build hT rfl ?_ | refine AwOps.lit hT rfl ?_ | refine AwSch.take (Yd.val hT rfl rfl) ?_ | refine AwSch.take (Yd.build hT rfl) ?_ | refine AwSch.nil ?_)
          refine AwOps.app hT rfl ?_ ?_ ?_ ?_ ?_
          · exact (eU_len _).symm
          · rfl
          · exact len_one
          · exact lim1 hlen2
          repeat (first | refine AwOps.v hT rfl ?_ | refine AwOps.eff hT rfl ?_ | refine AwOps.nil ?_ | refine Aw.seq ?_ | refine Aw.region ?_ | refine Aw.block ?_ | refine Aw.skip ?_ | refine Aw.exit ?_ | refine Aw.condT rfl ?_ | refine Aw.condF rfl ?_ | refine AwOps.build hT rfl ?_ | refine AwOps.lit hT rfl ?_ | refine AwSch.take (Yd.val hT rfl rfl) ?_ | refine AwSch.take (Yd.build hT rfl) ?_ | refine AwSch.nil ?_)
          exact Tn.back 3 900 rfl rfl rfl rfl rfl rfl rfl ⟨rfl, rfl, rfl, rfl, rfl, trivial⟩ ⟨rfl, trivial⟩ (by simp [eU]) (by simp [eU]; rfl)
        · simp only at hb3
          subst hb3
          repeat (first | refine AwOps.v hT rfl ?_ | refine AwOps.eff hT rfl ?_ | refine AwOps.nil ?_ | refine Aw.seq ?_ | refine Aw.region ?_ | refine Aw.block ?_ | refine Aw.skip ?_ | refine Aw.exit ?_ | refine Aw.condT rfl ?_ | refine Aw.condF rfl ?_ | refine AwOps.build hT rfl ?_ | refine AwOps.lit hT rfl ?_ | refine AwSch.take (Yd.val hT rfl rfl) ?_ | refine AwSch.take (Yd.build hT rfl) ?_ | refine AwSch.nil ?_)
          exact Less.tn ⟨rfl, ⟨rfl, rfl, rfl, rfl, rfl, rfl, trivial⟩, ⟨rfl, rfl, trivial⟩⟩
      intro σ' hσ
      refine Aw.turn hσ ?_
      have hlen3 : (if gap then out ++ [32] else out).length + 0 ≤ 1073741824 := by
        cases gap <;> simp at hlen2 ⊢ <;> omega
      have hnx2 : tfold (x.data.toList.take (i + 1)) = ((if gap then out ++ [32] else out) ++ [low c], false) := by rw [hnx, tfStep, if_neg hc32]
      generalize ho : (if gap then out ++ [32] else out) = out2 at *
      repeat (first | refine AwOps.v hT rfl ?_ | refine AwOps.eff hT rfl ?_ | refine AwOps.nil ?_ | refine Aw.seq ?_ | refine Aw.region ?_ | refine Aw.block ?_ | refine Aw.skip ?_ | refine Aw.exit ?_ | refine Aw.condT rfl ?_ | refine Aw.condF rfl ?_ | refine AwOps.build hT rfl ?_ | refine AwOps.lit hT rfl ?_ | refine AwSch.take (Yd.val hT rfl rfl) ?_ | refine AwSch.take (Yd.build hT rfl) ?_ | refine AwSch.nil ?_)
      refine AwOps.join (fun σ' => Tn σ' ⟨38, [(28, sc (.bool (decide ((c.toNat : Int) ≥ 65) && decide ((c.toNat : Int) ≤ 90)))), (3, .one (.own 900 out2.length)), (4, sc (.bool false)), (6, sc (.int .u8 (c.toNat : Int))), (10, sc (.int .i64 i)), (8, .one (.own 8 x.data.toList.length)), (9, sc (.int .i64 x.data.toList.length))],
        [(900, .row 5 1 true (eU out2)), (8, .row 5 1 false (eU x.data.toList))]⟩) ?_ ?_
      · refine AwOps.split (t := 25) rfl (fun hb4 => ?_) (fun hb4 => ?_)
        · rw [hb4]
          repeat (first | refine AwOps.v hT rfl ?_ | refine AwOps.eff hT rfl ?_ | refine AwOps.nil ?_ | refine Aw.seq ?_ | refine Aw.region ?_ | refine Aw.block ?_ | refine Aw.skip ?_ | refine Aw.exit ?_ | refine Aw.condT rfl ?_ | refine Aw.condF rfl ?_ | refine AwOps.build hT rfl ?_ | refine AwOps.lit hT rfl ?_ | refine AwSch.take (Yd.val hT rfl rfl) ?_ | refine AwSch.take (Yd.build hT rfl) ?_ | refine AwSch.nil ?_)
          exact Less.tn ⟨rfl, ⟨rfl, rfl, rfl, rfl, rfl, rfl, rfl, trivial⟩, ⟨rfl, rfl, trivial⟩⟩
        · rw [hb4]
          repeat (first | refine AwOps.v hT rfl ?_ | refine AwOps.eff hT rfl ?_ | refine AwOps.nil ?_ | refine Aw.seq ?_ | refine Aw.region ?_ | refine Aw.block ?_ | refine Aw.skip ?_ | refine Aw.exit ?_ | refine Aw.condT rfl ?_ | refine Aw.condF rfl ?_ | refine AwOps.build hT rfl ?_ | refine AwOps.lit hT rfl ?_ | refine AwSch.take (Yd.val hT rfl rfl) ?_ | refine AwSch.take (Yd.build hT rfl) ?_ | refine AwSch.nil ?_)
          exact Less.tn ⟨rfl, ⟨rfl, rfl, rfl, rfl, rfl, rfl, rfl, trivial⟩, ⟨rfl, rfl, trivial⟩⟩
      intro σ' hσ
      refine Aw.turn hσ ?_
      refine Aw.join (fun σ' => Tn σ' ⟨38, [(3, .one (.own 900 out2.length)), (4, sc (.bool false)), (6, sc (.int .u8 ((low c).toNat : Int))), (10, sc (.int .i64 i)), (8, .one (.own 8 x.data.toList.length)), (9, sc (.int .i64 x.data.toList.length))],
        [(900, .row 5 1 true (eU out2)), (8, .row 5 1 false (eU x.data.toList))]⟩) ?_ ?_
      · refine Aw.tst rfl (fun hb4 => ?_) (fun hb4 => ?_)
        · have hlo : 65 ≤ c.toNat ∧ c.toNat ≤ 90 := by simp at hb4; omega
          repeat (first | refine AwOps.v hT rfl ?_ | refine AwOps.eff hT rfl ?_ | refine AwOps.nil ?_ | refine Aw.seq ?_ | refine Aw.region ?_ | refine Aw.block ?_ | refine Aw.skip ?_ | refine Aw.exit ?_ | refine Aw.condT rfl ?_ | refine Aw.condF rfl ?_ | refine AwOps.build hT rfl ?_ | refine AwOps.lit hT rfl ?_ | refine AwSch.take (Yd.val hT rfl rfl) ?_ | refine AwSch.take (Yd.build hT rfl) ?_ | refine AwSch.nil ?_)
          exact Less.tn ⟨rfl, ⟨rfl, rfl, congrArg (fun z => some (sc (.int .u8 z))) (u8_low hlo.1 hlo.2), rfl, rfl, rfl, trivial⟩, ⟨rfl, rfl, trivial⟩⟩
        · have hlo : low c = c := by rw [low, if_neg (by simp at hb4; omega)]
          rw [hlo]
          repeat (first | refine AwOps.v hT rfl ?_ | refine AwOps.eff hT rfl ?_ | refine AwOps.nil ?_ | refine Aw.seq ?_ | refine Aw.region ?_ | refine Aw.block ?_ | refine Aw.skip ?_ | refine Aw.exit ?_ | refine Aw.condT rfl ?_ | refine Aw.condF rfl ?_ | refine AwOps.build hT rfl ?_ | refine AwOps.lit hT rfl ?_ | refine AwSch.take (Yd.val hT rfl rfl) ?_ | refine AwSch.take (Yd.build hT rfl) ?_ | refine AwSch.nil ?_)
          exact Less.tn ⟨rfl, ⟨rfl, rfl, rfl, rfl, rfl, rfl, trivial⟩, ⟨rfl, rfl, trivial⟩⟩
      intro σ' hσ
      refine Aw.turn hσ ?_
      repeat (first | refine AwOps.v hT rfl ?_ | refine AwOps.eff hT rfl ?_ | refine AwOps.nil ?_ | refine Aw.seq ?_ | refine Aw.region ?_ | refine Aw.block ?_ | refine Aw.skip ?_ | refine Aw.exit ?_ | refine Aw.condT rfl ?_ | refine Aw.condF rfl ?_ | refine AwOps.build hT rfl ?_ | refine AwOps.lit hT rfl ?_ | refine AwSch.take (Yd.val hT rfl rfl) ?_ | refine AwSch.take (Yd.build hT rfl) ?_ | refine AwSch.nil ?_)
      refine AwOps.app hT rfl ?_ ?_ ?_ ?_ ?_
      · exact (eU_len _).symm
      · rfl
      · exact len_one
      · exact lim1 hlen3
      repeat (first | refine AwOps.v hT rfl ?_ | refine AwOps.eff hT rfl ?_ | refine AwOps.nil ?_ | refine Aw.seq ?_ | refine Aw.region ?_ | refine Aw.block ?_ | refine Aw.skip ?_ | refine Aw.exit ?_ | refine Aw.condT rfl ?_ | refine Aw.condF rfl ?_ | refine AwOps.build hT rfl ?_ | refine AwOps.lit hT rfl ?_ | refine AwSch.take (Yd.val hT rfl rfl) ?_ | refine AwSch.take (Yd.build hT rfl) ?_ | refine AwSch.nil ?_)
      refine ⟨(i + 1, out2 ++ [low c], false), ⟨hlt, hnx2⟩, by simp only; omega, ?_⟩
      exact Tn.back 3 900 rfl rfl rfl rfl rfl rfl rfl ⟨rfl, incS hlt hl, rfl, rfl, trivial⟩ ⟨rfl, trivial⟩ (by simp [eU]) (by simp [eU]; rfl)
  · have he : i = x.data.toList.length := by have := of_decide_eq_false hb1; simp only at this; omega
    subst he
    rw [List.take_of_length_le (Nat.le_refl _)] at hst
    repeat (first | refine AwOps.v hT rfl ?_ | refine AwOps.eff hT rfl ?_ | refine AwOps.nil ?_ | refine Aw.seq ?_ | refine Aw.region ?_ | refine Aw.block ?_ | refine Aw.skip ?_ | refine Aw.exit ?_ | refine Aw.condT rfl ?_ | refine Aw.condF rfl ?_ | refine AwOps.build hT rfl ?_ | refine AwOps.lit hT rfl ?_ | refine AwSch.take (Yd.val hT rfl rfl) ?_ | refine AwSch.take (Yd.build hT rfl) ?_ | refine AwSch.nil ?_)
    refine AwOps.str hT rfl rfl (Nat.le_refl _) ?_
    repeat (first | refine AwOps.v hT rfl ?_ | refine AwOps.eff hT rfl ?_ | refine AwOps.nil ?_ | refine Aw.seq ?_ | refine Aw.region ?_ | refine Aw.block ?_ | refine Aw.skip ?_ | refine Aw.exit ?_ | refine Aw.condT rfl ?_ | refine Aw.condF rfl ?_ | refine AwOps.build hT rfl ?_ | refine AwOps.lit hT rfl ?_ | refine AwSch.take (Yd.val hT rfl rfl) ?_ | refine AwSch.take (Yd.build hT rfl) ?_ | refine AwSch.nil ?_)
    refine Aw.ret ?_
    refine ⟨_, [], rfl, trivial, ?_⟩
    show sc (.string (bS (out.take out.length))) = _
    rw [hst, List.take_length]

def lw (xs : List UInt8) (i : Nat) : List UInt8 := (xs.take i).map low ++ xs.drop i
theorem lw_len (xs : List UInt8) {i : Nat} (h : i ≤ xs.length) : (lw xs i).length = xs.length := by simp [lw]; omega
theorem lw_at {xs : List UInt8} {i : Nat} (h : i < xs.length) : (lw xs i)[i]? = some xs[i] := by
  rw [lw, List.getElem?_append_right (by simp; omega)]
  simp [Nat.min_eq_left (Nat.le_of_lt h), h]
theorem lw_set {xs : List UInt8} {i : Nat} (h : i < xs.length) : (lw xs i).set i (low xs[i]) = lw xs (i + 1) := by
  rw [lw, lw, List.set_append_right _ _ (by simp; omega), List.take_succ_eq_append_getElem h, List.map_append, List.append_assoc]
  congr 1
  have : i - (List.map low (List.take i xs)).length = 0 := by simp; omega
  rw [this, List.drop_eq_getElem_cons h]
  rfl
theorem set_same {α : Type} {xs : List α} {i : Nat} {c : α} (h : xs[i]? = some c) : xs.set i c = xs := by
  apply List.ext_getElem?
  intro j
  by_cases e : i = j
  · subst e
    rw [List.getElem?_set_self (getElem?_prop h), h]
  · rw [List.getElem?_set_ne e]
theorem eU_set (xs : List UInt8) (i : Nat) (c : UInt8) : (eU xs).set i (eUn c) = eU (xs.set i c) := by simp [eU, List.map_set]
theorem F112 (x : ByteArray) (hx : x.size ≤ 1073741824) : Fn Tryd.prog 74 [.pv (sc (.string x))] [] (fun z _ => z = sc (.string (bS (x.data.toList.map low)))) := by
  refine Fn.intro (rs := [.tmp 2]) hT Tryd.func74 (by kernel_rfl) rfl rfl rfl rfl fun C => ?_
  repeat (first | refine AwOps.v hT rfl ?_ | refine AwOps.eff hT rfl ?_ | refine AwOps.nil ?_ | refine Aw.seq ?_ | refine Aw.region ?_ | refine Aw.block ?_ | refine Aw.skip ?_ | refine Aw.exit ?_ | refine Aw.condT rfl ?_ | refine Aw.condF rfl ?_ | refine AwOps.build hT rfl ?_ | refine AwOps.lit hT rfl ?_ | refine AwSch.take (Yd.val hT rfl rfl) ?_ | refine AwSch.take (Yd.build hT rfl) ?_ | refine AwSch.nil ?_)
  refine AwOps.bytes hT rfl (Nat.le_trans hx (by decide)) ?_
  repeat (first | refine AwOps.v hT rfl ?_ | refine AwOps.eff hT rfl ?_ | refine AwOps.nil ?_ | refine Aw.seq ?_ | refine Aw.region ?_ | refine Aw.block ?_ | refine Aw.skip ?_ | refine Aw.exit ?_ | refine Aw.condT rfl ?_ | refine Aw.condF rfl ?_ | refine AwOps.build hT rfl ?_ | refine AwOps.lit hT rfl ?_ | refine AwSch.take (Yd.val hT rfl rfl) ?_ | refine AwSch.take (Yd.build hT rfl) ?_ | refine AwSch.nil ?_)
  have hl : x.data.toList.length ≤ maxLen := Nat.le_trans hx (by decide)
  refine Aw.lp (ι := Nat) (n := 33) [(3, _), (8, _)] [] (fun i => [(9, sc (.int .i64 i))])
    (fun i => [(6, .row 5 1 false (eU (lw x.data.toList i)))]) (fun i => i ≤ x.data.toList.length) (fun i => x.data.toList.length - i) 0 (by simp) (Less.tn ⟨rfl, ⟨rfl, rfl, rfl, trivial⟩, ⟨by simp [lw], trivial⟩⟩) ?_
  intro i hi
  repeat (first | refine AwOps.v hT rfl ?_ | refine AwOps.eff hT rfl ?_ | refine AwOps.nil ?_ | refine Aw.seq ?_ | refine Aw.region ?_ | refine Aw.block ?_ | refine Aw.skip ?_ | refine Aw.exit ?_ | refine Aw.condT rfl ?_ | refine Aw.condF rfl ?_ | refine AwOps.build hT rfl ?_ | refine AwOps.lit hT rfl ?_ | refine AwSch.take (Yd.val hT rfl rfl) ?_ | refine AwSch.take (Yd.build hT rfl) ?_ | refine AwSch.nil ?_)
  refine Aw.tst rfl (fun hb1 => ?_) (fun hb1 => ?_)
  · have hlt : i < x.data.toList.length := by simpa using hb1
    have hat := lw_at hlt
    have hset := lw_set hlt
    generalize hc : x.data.toList[i] = c at *
    have hel : (eU (lw x.data.toList i))[i]? = some (eUn c) := by rw [eU, List.getElem?_map, hat]; rfl
    repeat (first | refine AwOps.v hT rfl ?_ | refine AwOps.eff hT rfl ?_ | refine AwOps.nil ?_ | refine Aw.seq ?_ | refine Aw.region ?_ | refine Aw.block ?_ | refine Aw.skip ?_ | refine Aw.exit ?_ | refine Aw.condT rfl ?_ | refine Aw.condF rfl ?_ | refine AwOps.build hT rfl ?_ | refine AwOps.lit hT rfl ?_ | refine AwSch.take (Yd.val hT rfl rfl) ?_ | refine AwSch.take (Yd.build hT rfl) ?_ | refine AwSch.nil ?_)
    refine AwOps.idxo hT rfl rfl (by omega) hlt ?_
    refine AwOps.ldo hT rfl rfl (eUn c) hel rfl ?_
    repeat (first | refine AwOps.v hT rfl ?_ | refine AwOps.eff hT rfl ?_ | refine AwOps.nil ?_ | refine Aw.seq ?_ | refine Aw.region ?_ | refine Aw.block ?_ | refine Aw.skip ?_ | refine Aw.exit ?_ | refine Aw.condT rfl ?_ | refine Aw.condF rfl ?_ | refine AwOps.build hT rfl ?_ | refine AwOps.lit hT rfl ?_ | refine AwSch.take (Yd.val hT rfl rfl) ?_ | refine AwSch.take (Yd.build hT rfl) ?_ | refine AwSch.nil ?_)
    refine AwOps.join (fun σ' => Tn σ' ⟨33, [(23, sc (.bool (decide ((c.toNat : Int) ≥ 65) && decide ((c.toNat : Int) ≤ 90)))), (3, .one (.own 6 x.data.toList.length)), (4, sc (.int .i64 i)), (9, sc (.int .i64 i)), (8, sc (.int .i64 x.data.toList.length))],
        [(6, .row 5 1 false (eU (lw x.data.toList i)))]⟩) ?_ ?_
    · refine AwOps.split (t := 17) rfl (fun hb4 => ?_) (fun hb4 => ?_)
      · rw [hb4]
        repeat (first | refine AwOps.v hT rfl ?_ | refine AwOps.eff hT rfl ?_ | refine AwOps.nil ?_ | refine Aw.seq ?_ | refine Aw.region ?_ | refine Aw.block ?_ | refine Aw.skip ?_ | refine Aw.exit ?_ | refine Aw.condT rfl ?_ | refine Aw.condF rfl ?_ | refine AwOps.build hT rfl ?_ | refine AwOps.lit hT rfl ?_ | refine AwSch.take (Yd.val hT rfl rfl) ?_ | refine AwSch.take (Yd.build hT rfl) ?_ | refine AwSch.nil ?_)
        refine AwOps.idxo hT rfl rfl (by omega) hlt ?_
        refine AwOps.ldo hT rfl rfl (eUn c) hel rfl ?_
        repeat (first | refine AwOps.v hT rfl ?_ | refine AwOps.eff hT rfl ?_ | refine AwOps.nil ?_ | refine Aw.seq ?_ | refine Aw.region ?_ | refine Aw.block ?_ | refine Aw.skip ?_ | refine Aw.exit ?_ | refine Aw.condT rfl ?_ | refine Aw.condF rfl ?_ | refine AwOps.build hT rfl ?_ | refine AwOps.lit hT rfl ?_ | refine AwSch.take (Yd.val hT rfl rfl) ?_ | refine AwSch.take (Yd.build hT rfl) ?_ | refine AwSch.nil ?_)
        exact Less.tn ⟨rfl, ⟨rfl, rfl, rfl, rfl, rfl, trivial⟩, ⟨rfl, trivial⟩⟩
      · rw [hb4]
        repeat (first | refine AwOps.v hT rfl ?_ | refine AwOps.eff hT rfl ?_ | refine AwOps.nil ?_ | refine Aw.seq ?_ | refine Aw.region ?_ | refine Aw.block ?_ | refine Aw.skip ?_ | refine Aw.exit ?_ | refine Aw.condT rfl ?_ | refine Aw.condF rfl ?_ | refine AwOps.build hT rfl ?_ | refine AwOps.lit hT rfl ?_ | refine AwSch.take (Yd.val hT rfl rfl) ?_ | refine AwSch.take (Yd.build hT rfl) ?_ | refine AwSch.nil ?_)
        exact Less.tn ⟨rfl, ⟨rfl, rfl, rfl, rfl, rfl, trivial⟩, ⟨rfl, trivial⟩⟩
    intro σ' hσ
    refine Aw.turn hσ ?_
    refine Aw.tst rfl (fun hb4 => ?_) (fun hb4 => ?_)
    · have hlo : 65 ≤ c.toNat ∧ c.toNat ≤ 90 := by simp at hb4; omega
      repeat (first | refine AwOps.v hT rfl ?_ | refine AwOps.eff hT rfl ?_ | refine AwOps.nil ?_ | refine Aw.seq ?_ | refine Aw.region ?_ | refine Aw.block ?_ | refine Aw.skip ?_ | refine Aw.exit ?_ | refine Aw.condT rfl ?_ | refine Aw.condF rfl ?_ | refine AwOps.build hT rfl ?_ | refine AwOps.lit hT rfl ?_ | refine AwSch.take (Yd.val hT rfl rfl) ?_ | refine AwSch.take (Yd.build hT rfl) ?_ | refine AwSch.nil ?_)
      refine AwOps.idxo hT rfl rfl (by omega) hlt ?_
      refine AwOps.ldo hT rfl rfl (eUn c) hel rfl ?_
      repeat (first | refine AwOps.v hT rfl ?_ | refine AwOps.eff hT rfl ?_ | refine AwOps.nil ?_ | refine Aw.seq ?_ | refine Aw.region ?_ | refine Aw.block ?_ | refine Aw.skip ?_ | refine Aw.exit ?_ | refine Aw.condT rfl ?_ | refine Aw.condF rfl ?_ | refine AwOps.build hT rfl ?_ | refine AwOps.lit hT rfl ?_ | refine AwSch.take (Yd.val hT rfl rfl) ?_ | refine AwSch.take (Yd.build hT rfl) ?_ | refine AwSch.nil ?_)
      refine AwOps.idxo hT rfl rfl (by omega) hlt ?_
      refine AwOps.sto hT rfl rfl (eUn c) hel (Nat.le_refl 1) ?_
      repeat (first | refine AwOps.v hT rfl ?_ | refine AwOps.eff hT rfl ?_ | refine AwOps.nil ?_ | refine Aw.seq ?_ | refine Aw.region ?_ | refine Aw.block ?_ | refine Aw.skip ?_ | refine Aw.exit ?_ | refine Aw.condT rfl ?_ | refine Aw.condF rfl ?_ | refine AwOps.build hT rfl ?_ | refine AwOps.lit hT rfl ?_ | refine AwSch.take (Yd.val hT rfl rfl) ?_ | refine AwSch.take (Yd.build hT rfl) ?_ | refine AwSch.nil ?_)
      refine ⟨i + 1, hlt, by omega, Less.tn ⟨rfl, ⟨incS hlt hl, rfl, rfl, trivial⟩, ⟨?_, trivial⟩⟩⟩
      show some (HB.row 5 1 false ((eU (lw x.data.toList i)).set i [.v (.int .u8 (IntKind.wrap .u8 ((c.toNat : Int) + 32)))])) = _
      rw [u8_low hlo.1 hlo.2, ← hset, ← eU_set]
      rfl
    · have hlo : low c = c := by rw [low, if_neg (by simp at hb4; omega)]
      repeat (first | refine AwOps.v hT rfl ?_ | refine AwOps.eff hT rfl ?_ | refine AwOps.nil ?_ | refine Aw.seq ?_ | refine Aw.region ?_ | refine Aw.block ?_ | refine Aw.skip ?_ | refine Aw.exit ?_ | refine Aw.condT rfl ?_ | refine Aw.condF rfl ?_ | refine AwOps.build hT rfl ?_ | refine AwOps.lit hT rfl ?_ | refine AwSch.take (Yd.val hT rfl rfl) ?_ | refine AwSch.take (Yd.build hT rfl) ?_ | refine AwSch.nil ?_)
      refine ⟨i + 1, hlt, by omega, Less.tn ⟨rfl, ⟨incS hlt hl, rfl, rfl, trivial⟩, ⟨?_, trivial⟩⟩⟩
      show some (HB.row 5 1 false (eU (lw x.data.toList i))) = some (HB.row 5 1 false (eU (lw x.data.toList (i + 1))))
      rw [← hset, hlo, set_same hat]
  · have he : i = x.data.toList.length := by have := of_decide_eq_false hb1; omega
    subst he
    repeat (first | refine AwOps.v hT rfl ?_ | refine AwOps.eff hT rfl ?_ | refine AwOps.nil ?_ | refine Aw.seq ?_ | refine Aw.region ?_ | refine Aw.block ?_ | refine Aw.skip ?_ | refine Aw.exit ?_ | refine Aw.condT rfl ?_ | refine Aw.condF rfl ?_ | refine AwOps.build hT rfl ?_ | refine AwOps.lit hT rfl ?_ | refine AwSch.take (Yd.val hT rfl rfl) ?_ | refine AwSch.take (Yd.build hT rfl) ?_ | refine AwSch.nil ?_)
    refine AwOps.str hT rfl rfl (Nat.le_of_eq (lw_len _ (Nat.le_refl _)).symm) ?_
    repeat (first | refine AwOps.v hT rfl ?_ | refine AwOps.eff hT rfl ?_ | refine AwOps.nil ?_ | refine Aw.seq ?_ | refine Aw.region ?_ | refine Aw.block ?_ | refine Aw.skip ?_ | refine Aw.exit ?_ | refine Aw.condT rfl ?_ | refine Aw.condF rfl ?_ | refine AwOps.build hT rfl ?_ | refine AwOps.lit hT rfl ?_ | refine AwSch.take (Yd.val hT rfl rfl) ?_ | refine AwSch.take (Yd.build hT rfl) ?_ | refine AwSch.nil ?_)
    refine Aw.ret ?_
    refine ⟨_, [], rfl, trivial, ?_⟩
    show sc (.string (bS ((lw x.data.toList x.data.toList.length).take x.data.toList.length))) = _
    have : lw x.data.toList x.data.toList.length = x.data.toList.map low := by rw [lw, List.take_length, List.drop_length, List.append_nil]
    rw [this, List.take_of_length_le (by simp)]

def keep (out : List UInt8) (c : UInt8) : Bool := ((c.toNat : Int) != 32) || (match out.getLast? with
  | some l => (l.toNat : Int) != 32
  | none => false)
def rfStep (out : List UInt8) (c : UInt8) : List UInt8 := if keep out c then out ++ [c] else out
def trim (out : List UInt8) : List UInt8 := match out.getLast? with
  | some l => if (l.toNat : Int) == 32 then out.dropLast else out
  | none => out
def rfold (s : List UInt8) : List UInt8 := s.foldl rfStep []
theorem rfold_next {s : List UInt8} {i : Nat} (h : i < s.length) : rfold (s.take (i + 1)) = rfStep (rfold (s.take i)) s[i] := by
  rw [rfold, List.take_succ_eq_append_getElem h, List.foldl_append]
  rfl
theorem rfold_len (s : List UInt8) : (rfold s).length ≤ s.length := by
  suffices h : ∀ (s : List UInt8) (o : List UInt8) (k : Nat), o.length ≤ k → (s.foldl rfStep o).length ≤ k + s.length by
    have := h s [] 0 (by simp)
    rwa [Nat.zero_add] at this
  intro s
  induction s with
  | nil => intro o k h; exact h
  | cons c s ih =>
    intro o k h
    have := ih (rfStep o c) (k + 1) (by
      unfold rfStep
      split
      · simp; omega
      · omega)
    simp only [List.foldl_cons, List.length_cons]
    omega
theorem last_cases (out : List UInt8) : out = [] ∨ ∃ o l, out = o ++ [l] := by
  rcases List.eq_nil_or_concat out with h | ⟨o, l, h⟩
  · exact .inl h
  · exact .inr ⟨o, l, by simpa using h⟩
theorem wrap_pred {n : Nat} (h : n + 1 ≤ 1073741824) : IntKind.wrap .i64 (((n + 1 : Nat) : Int) - 1) = (n : Int) := by
  rw [IntWalk.i64_in _ (by omega)]
  omega
theorem eU_last (o : List UInt8) (l : UInt8) : (eU (o ++ [l]))[o.length]? = some (eUn l) := by
  rw [eU, List.getElem?_map, List.getElem?_append_right (Nat.le_refl _)]
  simp
theorem bt_at {ys : List UInt8} {i : Nat} (h : i < ys.length) : bt (bS ys) i = (ys[i].toNat : Int) := by
  show (((ys[i]?).getD 0).toNat : Int) = _
  rw [List.getElem?_eq_getElem h]
  rfl
theorem F111 (x : ByteArray) (hx : x.size ≤ 1073741824) : Fn Tryd.prog 94 [.pv (sc (.string x))] [] (fun z _ => z = sc (.string (bS (trim (rfold (x.data.toList.map low)))))) := by
  refine Fn.intro (rs := [.tmp 2]) hT Tryd.func94 (by kernel_rfl) rfl rfl rfl rfl fun C => ?_
  repeat (first | refine AwOps.v hT rfl ?_ | refine AwOps.eff hT rfl ?_ | refine AwOps.nil ?_ | refine Aw.seq ?_ | refine Aw.region ?_ | refine Aw.block ?_ | refine Aw.skip ?_ | refine Aw.exit ?_ | refine Aw.condT rfl ?_ | refine Aw.condF rfl ?_ | refine AwOps.build hT rfl ?_ | refine AwOps.lit hT rfl ?_ | refine AwSch.take (Yd.val hT rfl rfl) ?_ | refine AwSch.take (Yd.build hT rfl) ?_ | refine AwSch.nil ?_)
  refine AwOps.call (F112 x hx) [] rfl ⟨⟨rfl, rfl⟩, trivial⟩ trivial rfl ?_
  rintro _ _ rfl _ _
  have hys : (x.data.toList.map low).length ≤ 1073741824 := by rw [List.length_map]; exact hx
  generalize x.data.toList.map low = ys at *
  have hl : ys.length ≤ maxLen := Nat.le_trans hys (by decide)
  have hsz : (bS ys).size = ys.length := rfl
  repeat (first | refine AwOps.v hT rfl ?_ | refine AwOps.eff hT rfl ?_ | refine AwOps.nil ?_ | refine Aw.seq ?_ | refine Aw.region ?_ | refine Aw.block ?_ | refine Aw.skip ?_ | refine Aw.exit ?_ | refine Aw.condT rfl ?_ | refine Aw.condF rfl ?_ | refine AwOps.build hT rfl ?_ | refine AwOps.lit hT rfl ?_ | refine AwSch.take (Yd.val hT rfl rfl) ?_ | refine AwSch.take (Yd.build hT rfl) ?_ | refine AwSch.nil ?_)
  refine Aw.turn (Tn.own 3 900 5 1 rfl (by decide) (by decide) rfl) ?_
  refine Aw.lp (ι := Nat × List UInt8) (n := 56) [(0, _)] [] (fun i => [(3, .one (.own 900 i.2.length)), (4, sc (.int .i64 i.1))])
    (fun i => [(900, .row 5 1 true (eU i.2))]) (fun i => i.1 ≤ ys.length ∧ rfold (ys.take i.1) = i.2) (fun i => ys.length - i.1) (0, []) (by simp [rfold]) (Less.tn ⟨rfl, ⟨rfl, rfl, rfl, trivial⟩, ⟨rfl, trivial⟩⟩) ?_
  rintro ⟨i, out⟩ ⟨hi, hst⟩
  simp only at hi hst
  have hlen := rfold_len (ys.take i)
  rw [hst, List.length_take] at hlen
  repeat (first | refine AwOps.v hT rfl ?_ | refine AwOps.eff hT rfl ?_ | refine AwOps.nil ?_ | refine Aw.seq ?_ | refine Aw.region ?_ | refine Aw.block ?_ | refine Aw.skip ?_ | refine Aw.exit ?_ | refine Aw.condT rfl ?_ | refine Aw.condF rfl ?_ | refine AwOps.build hT rfl ?_ | refine AwOps.lit hT rfl ?_ | refine AwSch.take (Yd.val hT rfl rfl) ?_ | refine AwSch.take (Yd.build hT rfl) ?_ | refine AwSch.nil ?_)
  refine Aw.tst rfl (fun hb1 => ?_) (fun hb1 => ?_)
  · have hlt : i < ys.length := by have := of_decide_eq_true hb1; rw [hsz] at this; simp only at this; omega
    have hnx := rfold_next hlt
    rw [hst] at hnx
    have hbt := bt_at hlt
    generalize hc : ys[i] = c at *
    repeat (first | refine AwOps.v hT rfl ?_ | refine AwOps.eff hT rfl ?_ | refine AwOps.nil ?_ | refine Aw.seq ?_ | refine Aw.region ?_ | refine Aw.block ?_ | refine Aw.skip ?_ | refine Aw.exit ?_ | refine Aw.condT rfl ?_ | refine Aw.condF rfl ?_ | refine AwOps.build hT rfl ?_ | refine AwOps.lit hT rfl ?_ | refine AwSch.take (Yd.val hT rfl rfl) ?_ | refine AwSch.take (Yd.build hT rfl) ?_ | refine AwSch.nil ?_)
    refine AwOps.byte hT rfl (by omega) hlt ?_
    refine AwOps.turn (Less.say (t := 15) (B := sc (.int .u8 (c.toNat : Int))) rfl (congrArg (fun z => sc (.int .u8 z)) hbt)) ?_
    refine AwOps.join (fun σ' => Tn σ' ⟨56, [(30, sc (.bool (keep out c))), (3, .one (.own 900 out.length)), (4, sc (.int .i64 i)), (0, sc (.string (bS ys)))], [(900, .row 5 1 true (eU out))]⟩) ?_ ?_
    · repeat (first | refine AwOps.v hT rfl ?_ | refine AwOps.eff hT rfl ?_ | refine AwOps.nil ?_ | refine Aw.seq ?_ | refine Aw.region ?_ | refine Aw.block ?_ | refine Aw.skip ?_ | refine Aw.exit ?_ | refine Aw.condT rfl ?_ | refine Aw.condF rfl ?_ | refine AwOps.build hT rfl ?_ | refine AwOps.lit hT rfl ?_ | refine AwSch.take (Yd.val hT rfl rfl) ?_ | refine AwSch.take (Yd.build hT rfl) ?_ | refine AwSch.nil ?_)
      refine AwOps.split (t := 17) rfl (fun hb2 => ?_) (fun hb2 => ?_)
      · have hk : keep out c = true := by simp only [keep, hb2, Bool.true_or]
        rw [hk]
        repeat (first | refine AwOps.v hT rfl ?_ | refine AwOps.eff hT rfl ?_ | refine AwOps.nil ?_ | refine Aw.seq ?_ | refine Aw.region ?_ | refine Aw.block ?_ | refine Aw.skip ?_ | refine Aw.exit ?_ | refine Aw.condT rfl ?_ | refine Aw.condF rfl ?_ | refine AwOps.build hT rfl ?_ | refine AwOps.lit hT rfl ?_ | refine AwSch.take (Yd.val hT rfl rfl) ?_ | refine AwSch.take (Yd.build hT rfl) ?_ | refine AwSch.nil ?_)
        exact Less.tn ⟨rfl, ⟨rfl, rfl, rfl, rfl, trivial⟩, ⟨rfl, trivial⟩⟩
      · have hc32 : c.toNat = 32 := by simp at hb2; omega
        repeat (first | refine AwOps.v hT rfl ?_ | refine AwOps.eff hT rfl ?_ | refine AwOps.nil ?_ | refine Aw.seq ?_ | refine Aw.region ?_ | refine Aw.block ?_ | refine Aw.skip ?_ | refine Aw.exit ?_ | refine Aw.condT rfl ?_ | refine Aw.condF rfl ?_ | refine AwOps.build hT rfl ?_ | refine AwOps.lit hT rfl ?_ | refine AwSch.take (Yd.val hT rfl rfl) ?_ | refine AwSch.take (Yd.build hT rfl) ?_ | refine AwSch.nil ?_)
        rcases last_cases out with rfl | ⟨o, l, rfl⟩
        · repeat (first | refine AwOps.v hT rfl ?_ | refine AwOps.eff hT rfl ?_ | refine AwOps.nil ?_ | refine Aw.seq ?_ | refine Aw.region ?_ | refine Aw.block ?_ | refine Aw.skip ?_ | refine Aw.exit ?_ | refine Aw.condT rfl ?_ | refine Aw.condF rfl ?_ | refine AwOps.build hT rfl ?_ | refine AwOps.lit hT rfl ?_ | refine AwSch.take (Yd.val hT rfl rfl) ?_ | refine AwSch.take (Yd.build hT rfl) ?_ | refine AwSch.nil ?_)
          exact Less.tn ⟨rfl, ⟨by simp [keep, hc32]; rfl, rfl, rfl, rfl, trivial⟩, ⟨rfl, trivial⟩⟩
        · have hp : IntKind.wrap .i64 (((o ++ [l]).length : Int) - 1) = (o.length : Int) := by
            rw [List.length_append]
            exact wrap_pred (by simp at hlen; omega)
          have hkp : keep (o ++ [l]) c = ((l.toNat : Int) != 32) := by simp [keep, hc32]
          rw [hkp]
          refine AwOps.split (t := 21) rfl (fun hb3 => ?_) (fun hb3 => ?_)
          · repeat (first | refine AwOps.v hT rfl ?_ | refine AwOps.eff hT rfl ?_ | refine AwOps.nil ?_ | refine Aw.seq ?_ | refine Aw.region ?_ | refine Aw.block ?_ | refine Aw.skip ?_ | refine Aw.exit ?_ | refine Aw.condT rfl ?_ | refine Aw.condF rfl ?_ | refine AwOps.build hT rfl ?_ | refine AwOps.lit hT rfl ?_ | refine AwSch.take (Yd.val hT rfl rfl) ?_ | refine AwSch.take (Yd.build hT rfl) ?_ | refine AwSch.nil ?_)
            refine AwOps.turn (Less.say (t := 25) (B := sc (.int .i64 (o.length : Int))) rfl (congrArg (fun z => sc (.int .i64 z)) hp)) ?_
            refine AwOps.idxo hT rfl rfl (by omega) (by simp) ?_
            refine AwOps.ldo hT rfl rfl (eUn l) (eU_last o l) rfl ?_
            repeat (first | refine AwOps.v hT rfl ?_ | refine AwOps.eff hT rfl ?_ | refine AwOps.nil ?_ | refine Aw.seq ?_ | refine Aw.region ?_ | refine Aw.block ?_ | refine Aw.skip ?_ | refine Aw.exit ?_ | refine Aw.condT rfl ?_ | refine Aw.condF rfl ?_ | refine AwOps.build hT rfl ?_ | refine AwOps.lit hT rfl ?_ | refine AwSch.take (Yd.val hT rfl rfl) ?_ | refine AwSch.take (Yd.build hT rfl) ?_ | refine AwSch.nil ?_)
            exact Less.tn ⟨rfl, ⟨rfl, rfl, rfl, rfl, trivial⟩, ⟨rfl, trivial⟩⟩
          · simp at hb3
    intro σ' hσ
    refine Aw.turn hσ ?_
    refine Aw.tst rfl (fun hb2 => ?_) (fun hb2 => ?_)
    · repeat (first | refine AwOps.v hT rfl ?_ | refine AwOps.eff hT rfl ?_ | refine AwOps.nil ?_ | refine Aw.seq ?_ | refine Aw.region ?_ | refine Aw.block ?_ | refine Aw.skip ?_ | refine Aw.exit ?_ | refine Aw.condT rfl ?_ | refine Aw.condF rfl ?_ | refine AwOps.build hT rfl ?_ | refine AwOps.lit hT rfl ?_ | refine AwSch.take (Yd.val hT rfl rfl) ?_ | refine AwSch.take (Yd.build hT rfl) ?_ | refine AwSch.nil ?_)
      refine AwOps.byte hT rfl (by omega) hlt ?_
      refine AwOps.turn (Less.say (t := 34) (B := sc (.int .u8 (c.toNat : Int))) rfl (congrArg (fun z => sc (.int .u8 z)) hbt)) ?_
      repeat (first | refine AwOps.v hT rfl ?_ | refine AwOps.eff hT rfl ?_ | refine AwOps.nil ?_ | refine Aw.seq ?_ | refine Aw.region ?_ | refine Aw.block ?_ | refine Aw.skip ?_ | refine Aw.exit ?_ | refine Aw.condT rfl ?_ | refine Aw.condF rfl ?_ | refine AwOps.build hT rfl ?_ | refine AwOps.lit hT rfl ?_ | refine AwSch.take (Yd.val hT rfl rfl) ?_ | refine AwSch.take (Yd.build hT rfl) ?_ | refine AwSch.nil ?_)
      refine AwOps.app hT rfl ?_ ?_ ?_ ?_ ?_
      · exact (eU_len _).symm
      · rfl
      · exact len_one
      · exact lim1 (k := 0) (by omega)
      repeat (first | refine AwOps.v hT rfl ?_ | refine AwOps.eff hT rfl ?_ | refine AwOps.nil ?_ | refine Aw.seq ?_ | refine Aw.region ?_ | refine Aw.block ?_ | refine Aw.skip ?_ | refine Aw.exit ?_ | refine Aw.condT rfl ?_ | refine Aw.condF rfl ?_ | refine AwOps.build hT rfl ?_ | refine AwOps.lit hT rfl ?_ | refine AwSch.take (Yd.val hT rfl rfl) ?_ | refine AwSch.take (Yd.build hT rfl) ?_ | refine AwSch.nil ?_)
      refine ⟨(i + 1, out ++ [c]), ⟨hlt, by rw [hnx, rfStep, if_pos hb2]⟩, by simp only; omega, ?_⟩
      exact Tn.back 3 900 rfl rfl rfl rfl rfl rfl rfl ⟨incS hlt hl, rfl, trivial⟩ trivial (by simp [eU]) (by simp [eU]; rfl)
    · repeat (first | refine AwOps.v hT rfl ?_ | refine AwOps.eff hT rfl ?_ | refine AwOps.nil ?_ | refine Aw.seq ?_ | refine Aw.region ?_ | refine Aw.block ?_ | refine Aw.skip ?_ | refine Aw.exit ?_ | refine Aw.condT rfl ?_ | refine Aw.condF rfl ?_ | refine AwOps.build hT rfl ?_ | refine AwOps.lit hT rfl ?_ | refine AwSch.take (Yd.val hT rfl rfl) ?_ | refine AwSch.take (Yd.build hT rfl) ?_ | refine AwSch.nil ?_)
      refine ⟨(i + 1, out), ⟨hlt, by rw [hnx, rfStep, if_neg (by simp [hb2])]⟩, by simp only; omega, Less.tn ⟨rfl, ⟨rfl, incS hlt hl, rfl, trivial⟩, ⟨rfl, trivial⟩⟩⟩
  · have he : i = ys.length := by have := of_decide_eq_false hb1; rw [hsz] at this; simp only at this; omega
    subst he
    rw [List.take_of_length_le (Nat.le_refl _)] at hst
    rw [hst]
    repeat (first | refine AwOps.v hT rfl ?_ | refine AwOps.eff hT rfl ?_ | refine AwOps.nil ?_ | refine Aw.seq ?_ | refine Aw.region ?_ | refine Aw.block ?_ | refine Aw.skip ?_ | refine Aw.exit ?_ | refine Aw.condT rfl ?_ | refine Aw.condF rfl ?_ | refine AwOps.build hT rfl ?_ | refine AwOps.lit hT rfl ?_ | refine AwSch.take (Yd.val hT rfl rfl) ?_ | refine AwSch.take (Yd.build hT rfl) ?_ | refine AwSch.nil ?_)
    refine AwOps.join (fun σ' => Tn σ' ⟨56, [(48, sc (.bool (match out.getLast? with | some l => (l.toNat : Int) == 32 | none => false))), (3, .one (.own 900 out.length))], [(900, .row 5 1 true (eU out))]⟩) ?_ ?_
    · rcases last_cases out with rfl | ⟨o, l, rfl⟩
      · repeat (first | refine AwOps.v hT rfl ?_ | refine AwOps.eff hT rfl ?_ | refine AwOps.nil ?_ | refine Aw.seq ?_ | refine Aw.region ?_ | refine Aw.block ?_ | refine Aw.skip ?_ | refine Aw.exit ?_ | refine Aw.condT rfl ?_ | refine Aw.condF rfl ?_ | refine AwOps.build hT rfl ?_ | refine AwOps.lit hT rfl ?_ | refine AwSch.take (Yd.val hT rfl rfl) ?_ | refine AwSch.take (Yd.build hT rfl) ?_ | refine AwSch.nil ?_)
        exact Less.tn ⟨rfl, ⟨rfl, rfl, trivial⟩, ⟨rfl, trivial⟩⟩
      · have hp : IntKind.wrap .i64 (((o ++ [l]).length : Int) - 1) = (o.length : Int) := by
          rw [List.length_append]
          exact wrap_pred (by simp at hlen; omega)
        refine AwOps.split (t := 40) rfl (fun hb3 => ?_) (fun hb3 => ?_)
        · repeat (first | refine AwOps.v hT rfl ?_ | refine AwOps.eff hT rfl ?_ | refine AwOps.nil ?_ | refine Aw.seq ?_ | refine Aw.region ?_ | refine Aw.block ?_ | refine Aw.skip ?_ | refine Aw.exit ?_ | refine Aw.condT rfl ?_ | refine Aw.condF rfl ?_ | refine AwOps.build hT rfl ?_ | refine AwOps.lit hT rfl ?_ | refine AwSch.take (Yd.val hT rfl rfl) ?_ | refine AwSch.take (Yd.build hT rfl) ?_ | refine AwSch.nil ?_)
          refine AwOps.turn (Less.say (t := 44) (B := sc (.int .i64 (o.length : Int))) rfl (congrArg (fun z => sc (.int .i64 z)) hp)) ?_
          refine AwOps.idxo hT rfl rfl (by omega) (by simp) ?_
          refine AwOps.ldo hT rfl rfl (eUn l) (eU_last o l) rfl ?_
          repeat (first | refine AwOps.v hT rfl ?_ | refine AwOps.eff hT rfl ?_ | refine AwOps.nil ?_ | refine Aw.seq ?_ | refine Aw.region ?_ | refine Aw.block ?_ | refine Aw.skip ?_ | refine Aw.exit ?_ | refine Aw.condT rfl ?_ | refine Aw.condF rfl ?_ | refine AwOps.build hT rfl ?_ | refine AwOps.lit hT rfl ?_ | refine AwSch.take (Yd.val hT rfl rfl) ?_ | refine AwSch.take (Yd.build hT rfl) ?_ | refine AwSch.nil ?_)
          refine Less.tn ⟨rfl, ⟨?_, rfl, trivial⟩, ⟨rfl, trivial⟩⟩
          show some (sc (.bool ((l.toNat : Int) == 32))) = _
          simp
        · simp at hb3
    intro σ' hσ
    refine Aw.turn hσ ?_
    refine Aw.tst rfl (fun hb2 => ?_) (fun hb2 => ?_)
    · rcases last_cases out with rfl | ⟨o, l, rfl⟩
      · simp at hb2
      · have hp : IntKind.wrap .i64 (((o ++ [l]).length : Int) - 1) = (o.length : Int) := by
          rw [List.length_append]
          exact wrap_pred (by simp at hlen; omega)
        repeat (first | refine AwOps.v hT rfl ?_ | refine AwOps.eff hT rfl ?_ | refine AwOps.nil ?_ | refine Aw.seq ?_ | refine Aw.region ?_ | refine Aw.block ?_ | refine Aw.skip ?_ | refine Aw.exit ?_ | refine Aw.condT rfl ?_ | refine Aw.condF rfl ?_ | refine AwOps.build hT rfl ?_ | refine AwOps.lit hT rfl ?_ | refine AwSch.take (Yd.val hT rfl rfl) ?_ | refine AwSch.take (Yd.build hT rfl) ?_ | refine AwSch.nil ?_)
        refine AwOps.turn (Less.say (t := 52) (B := sc (.int .i64 (o.length : Int))) rfl (congrArg (fun z => sc (.int .i64 z)) hp)) ?_
        refine AwOps.slo hT rfl (by omega) (by simp; omega) ?_
        repeat (first | refine AwOps.v hT rfl ?_ | refine AwOps.eff hT rfl ?_ | refine AwOps.nil ?_ | refine Aw.seq ?_ | refine Aw.region ?_ | refine Aw.block ?_ | refine Aw.skip ?_ | refine Aw.exit ?_ | refine Aw.condT rfl ?_ | refine Aw.condF rfl ?_ | refine AwOps.build hT rfl ?_ | refine AwOps.lit hT rfl ?_ | refine AwSch.take (Yd.val hT rfl rfl) ?_ | refine AwSch.take (Yd.build hT rfl) ?_ | refine AwSch.nil ?_)
        refine AwOps.str hT rfl rfl (by simp) ?_
        repeat (first | refine AwOps.v hT rfl ?_ | refine AwOps.eff hT rfl ?_ | refine AwOps.nil ?_ | refine Aw.seq ?_ | refine Aw.region ?_ | refine Aw.block ?_ | refine Aw.skip ?_ | refine Aw.exit ?_ | refine Aw.condT rfl ?_ | refine Aw.condF rfl ?_ | refine AwOps.build hT rfl ?_ | refine AwOps.lit hT rfl ?_ | refine AwSch.take (Yd.val hT rfl rfl) ?_ | refine AwSch.take (Yd.build hT rfl) ?_ | refine AwSch.nil ?_)
        refine Aw.ret ⟨_, [], rfl, trivial, ?_⟩
        show sc (.string (bS ((o ++ [l]).take o.length))) = _
        have hd : (o ++ [l]).dropLast = (o ++ [l]).take o.length := by simp
        simp only [trim, List.getLast?_concat] at hb2 ⊢
        rw [if_pos hb2, hd]
    · repeat (first | refine AwOps.v hT rfl ?_ | refine AwOps.eff hT rfl ?_ | refine AwOps.nil ?_ | refine Aw.seq ?_ | refine Aw.region ?_ | refine Aw.block ?_ | refine Aw.skip ?_ | refine Aw.exit ?_ | refine Aw.condT rfl ?_ | refine Aw.condF rfl ?_ | refine AwOps.build hT rfl ?_ | refine AwOps.lit hT rfl ?_ | refine AwSch.take (Yd.val hT rfl rfl) ?_ | refine AwSch.take (Yd.build hT rfl) ?_ | refine AwSch.nil ?_)
      refine AwOps.str hT rfl rfl (Nat.le_refl _) ?_
      repeat (first | refine AwOps.v hT rfl ?_ | refine AwOps.eff hT rfl ?_ | refine AwOps.nil ?_ | refine Aw.seq ?_ | refine Aw.region ?_ | refine Aw.block ?_ | refine Aw.skip ?_ | refine Aw.exit ?_ | refine Aw.condT rfl ?_ | refine Aw.condF rfl ?_ | refine AwOps.build hT rfl ?_ | refine AwOps.lit hT rfl ?_ | refine AwSch.take (Yd.val hT rfl rfl) ?_ | refine AwSch.take (Yd.build hT rfl) ?_ | refine AwSch.nil ?_)
      refine Aw.ret ⟨_, [], rfl, trivial, ?_⟩
      show sc (.string (bS (out.take out.length))) = _
      rw [List.take_length]
      unfold trim
      split
      · rename_i l hl2
        rw [hl2] at hb2
        simp only at hb2
        rw [if_neg (by rw [hb2]; simp)]
      · rfl
-- f108 text.Match, f109 MatchText
theorem F108 (x y : ByteArray) (hx : x.size ≤ 1073741824) (hy : y.size ≤ 1073741824) : Fn Tryd.prog 76 [.pv (sc (.string x)), .pv (sc (.string y))] [] (fun z _ => z = sc (.bool (seq (bS (tfold x.data.toList).1) (bS (tfold y.data.toList).1)))) := by
  refine Fn.intro (rs := [.tmp 4]) hT Tryd.func76 (by kernel_rfl) rfl rfl rfl rfl fun C => ?_
  repeat (first | refine AwOps.v hT rfl ?_ | refine AwOps.eff hT rfl ?_ | refine AwOps.nil ?_ | refine Aw.seq ?_ | refine Aw.region ?_ | refine Aw.block ?_ | refine Aw.skip ?_ | refine Aw.exit ?_ | refine Aw.condT rfl ?_ | refine Aw.condF rfl ?_ | refine AwOps.build hT rfl ?_ | refine AwOps.lit hT rfl ?_ | refine AwSch.take (Yd.val hT rfl rfl) ?_ | refine AwSch.take (Yd.build hT rfl) ?_ | refine AwSch.nil ?_)
  refine AwOps.call (F110 x hx) [] rfl ⟨⟨rfl, rfl⟩, trivial⟩ trivial rfl ?_
  rintro _ _ rfl _ _
  repeat (first | refine AwOps.v hT rfl ?_ | refine AwOps.eff hT rfl ?_ | refine AwOps.nil ?_ | refine Aw.seq ?_ | refine Aw.region ?_ | refine Aw.block ?_ | refine Aw.skip ?_ | refine Aw.exit ?_ | refine Aw.condT rfl ?_ | refine Aw.condF rfl ?_ | refine AwOps.build hT rfl ?_ | refine AwOps.lit hT rfl ?_ | refine AwSch.take (Yd.val hT rfl rfl) ?_ | refine AwSch.take (Yd.build hT rfl) ?_ | refine AwSch.nil ?_)
  refine AwOps.call (F110 y hy) [] rfl ⟨⟨rfl, rfl⟩, trivial⟩ trivial rfl ?_
  rintro _ _ rfl _ _
  repeat (first | refine AwOps.v hT rfl ?_ | refine AwOps.eff hT rfl ?_ | refine AwOps.nil ?_ | refine Aw.seq ?_ | refine Aw.region ?_ | refine Aw.block ?_ | refine Aw.skip ?_ | refine Aw.exit ?_ | refine Aw.condT rfl ?_ | refine Aw.condF rfl ?_ | refine AwOps.build hT rfl ?_ | refine AwOps.lit hT rfl ?_ | refine AwSch.take (Yd.val hT rfl rfl) ?_ | refine AwSch.take (Yd.build hT rfl) ?_ | refine AwSch.nil ?_)
  exact Aw.ret ⟨_, [], rfl, trivial, rfl⟩
theorem F109 (x y : ByteArray) (hx : x.size ≤ 1073741824) (hy : y.size ≤ 1073741824) : Fn Tryd.prog 85 [.pv (sc (.string x)), .pv (sc (.string y))] [] (fun z _ => z = sc (.bool (seq (bS (trim (rfold (x.data.toList.map low)))) (bS (trim (rfold (y.data.toList.map low))))))) := by
  refine Fn.intro (rs := [.tmp 4]) hT Tryd.func85 (by kernel_rfl) rfl rfl rfl rfl fun C => ?_
  repeat (first | refine AwOps.v hT rfl ?_ | refine AwOps.eff hT rfl ?_ | refine AwOps.nil ?_ | refine Aw.seq ?_ | refine Aw.region ?_ | refine Aw.block ?_ | refine Aw.skip ?_ | refine Aw.exit ?_ | refine Aw.condT rfl ?_ | refine Aw.condF rfl ?_ | refine AwOps.build hT rfl ?_ | refine AwOps.lit hT rfl ?_ | refine AwSch.take (Yd.val hT rfl rfl) ?_ | refine AwSch.take (Yd.build hT rfl) ?_ | refine AwSch.nil ?_)
  refine AwOps.call (F111 x hx) [] rfl ⟨⟨rfl, rfl⟩, trivial⟩ trivial rfl ?_
  rintro _ _ rfl _ _
  repeat (first | refine AwOps.v hT rfl ?_ | refine AwOps.eff hT rfl ?_ | refine AwOps.nil ?_ | refine Aw.seq ?_ | refine Aw.region ?_ | refine Aw.block ?_ | refine Aw.skip ?_ | refine Aw.exit ?_ | refine Aw.condT rfl ?_ | refine Aw.condF rfl ?_ | refine AwOps.build hT rfl ?_ | refine AwOps.lit hT rfl ?_ | refine AwSch.take (Yd.val hT rfl rfl) ?_ | refine AwSch.take (Yd.build hT rfl) ?_ | refine AwSch.nil ?_)
  refine AwOps.call (F111 y hy) [] rfl ⟨⟨rfl, rfl⟩, trivial⟩ trivial rfl ?_
  rintro _ _ rfl _ _
  repeat (first | refine AwOps.v hT rfl ?_ | refine AwOps.eff hT rfl ?_ | refine AwOps.nil ?_ | refine Aw.seq ?_ | refine Aw.region ?_ | refine Aw.block ?_ | refine Aw.skip ?_ | refine Aw.exit ?_ | refine Aw.condT rfl ?_ | refine Aw.condF rfl ?_ | refine AwOps.build hT rfl ?_ | refine AwOps.lit hT rfl ?_ | refine AwSch.take (Yd.val hT rfl rfl) ?_ | refine AwSch.take (Yd.build hT rfl) ?_ | refine AwSch.nil ?_)
  exact Aw.ret ⟨_, [], rfl, trivial, rfl⟩
end Go.Proofs.YtbdgmondalkhlaaDoor.Aw
