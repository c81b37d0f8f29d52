
/- Slices of rows of one's own, of strings.
   Conditions: none; generic in the program. -/
import Derived.Test.YtbdgmondalkhlaaDoorAwByte
import Derived.Laws.Slices
namespace Go.Proofs.YtbdgmondalkhlaaDoor.Aw
open Go

variable {P : Program} {C : Ctx P} {T : TT} {σ τ : AS} {a : Act} {w w1 : World} {β β1 : Map} {ops : Array Oper} {i : Nat} {l : List Nat} {K : AS → Prop} {F : Nat → Prop}

def evI (σ : AS) : Option Operand → Option (Option Int)
  | none => some none
  | some x => match ev σ x with
    | some (.one (.p (.v (.int _ m)))) => some (some m)
    | _ => none
theorem evI_ok (r : Rel C σ a w β) {x : Option Operand} {m : Option Int} (h : evI σ x = some m) : match m with
    | none => x = none
    | some m => ∃ o k, x = some o ∧ a.eval o = .int k m := by
  cases x with
  | none => injection h with h; subst h; rfl
  | some o =>
    simp only [evI] at h
    split at h
    · rename_i k m' he
      injection h with h
      subst h
      exact ⟨o, k, rfl, r.ev_v he⟩
    · cases h

def sloV (T : TT) (ops : Array Oper) (i n : Nat) (s : List (Nat × AV)) (h : List (Nat × HB)) : Option (Nat × Nat × Nat × Int) := match ops[i]? with
  | some o => match gd ops ⟨n, s, h⟩ o, o.op, o.dst with
    | some true, .slice t x none hi none, some d => match T.lookup t, ev ⟨n, s, h⟩ x, evI ⟨n, s, h⟩ hi with
      | some ti, some (.one (.own b m)), some (some k) => match ti.kd, h.lookup b with
        | .sli _ _ _, some (.row _ _ _ _) => if d < n then some (d, b, m, k) else none
        | _, _ => none
      | _, _, _ => none
    | _, _, _ => none
  | none => none
theorem add_zero' (a : Addr) : a.add 0 = a := by simp [Addr.add]
theorem Yd.slo (hT : TT.ok P T) {N : List Nat} {n d b m : Nat} {k : Int} {s : List (Nat × AV)} {h : List (Nat × HB)} (hs : sloV T ops i n s h = some (d, b, m, k)) (h0 : 0 ≤ k) (h1 : k ≤ m) : Yd P C ops N i ⟨n, s, h⟩ d (.one (.own b k.toNat)) := by
  unfold sloV at hs
  split at hs
  · rename_i o ho
    split at hs
    · rename_i t x hi d' hg hop hd
      split at hs
      · rename_i ti b' m' k' hti hx hk
        split at hs
        · rename_i e sz ag ty s' pl es hk1 hb
          split at hs
          · rename_i hn
            injection hs with hs
            injection hs with hs1 hs
            injection hs with hs2 hs
            injection hs with hs3 hs4
            subst hs1 hs2 hs3 hs4
            refine Yd.of ho hg hd hn fun a w β r => ?_
            obtain ⟨u1, hsz⟩ := kd_sli (hT _ _ hti) hk1
            obtain ⟨yi, dj, k1, k2, k3⟩ := sizeT_ok hsz
            obtain ⟨hio, kk, rfl, hik⟩ := evI_ok r hk
            have hv := r.ev hx
            have hok := r.heap b' _ hb
            simp only [AVs, AV.rep, AL.rep] at hv ⊢
            cases hl : β b' with
            | dead => rw [hl] at hok; exact hok.elim
            | nil =>
              rw [hl] at hv
              have hk0 : k' = 0 := by omega
              subst hk0
              refine ⟨.slice none 0 0, fun w' _ => ?_, rfl, rfl⟩
              simp [execOp, hop, Instr.sliceAt, Instr.slice, run_underlying' u1, hv.1, hik, Instr.sliceBounds, Instr.sliceBound, asIntOf, run_size' k1]
            | here g c =>
              rw [hl] at hv
              refine ⟨.slice (some ⟨g, 0, none⟩) k'.toNat c, fun w' _ => ?_, rfl, by omega⟩
              have hkc : k' ≤ (c : Int) := by omega
              simp [execOp, hop, Instr.sliceAt, Instr.slice, run_underlying' u1, hv.1, hik, Instr.sliceBounds, Instr.sliceBound, asIntOf, run_size' k1, h0, hkc, add_zero']
          · cases hs
        · cases hs
      · cases hs
    · cases hs
  · cases hs
theorem AwOps.slo (hT : TT.ok P T) {n d b m : Nat} {k : Int} {s : List (Nat × AV)} {h : List (Nat × HB)} (hs : sloV T ops i n s h = some (d, b, m, k)) (h0 : 0 ≤ k) (h1 : k ≤ m) (hK : AwOps P C ops l ⟨n, (d, .one (.own b k.toNat)) :: s, h⟩ K) : AwOps P C ops (i :: l) ⟨n, s, h⟩ K :=
  AwOps.yd (Yd.slo hT hs h0 h1) hK

def loI : Option Int → Int
  | none => 0
  | some m => m
def hiI (n : Nat) : Option Int → Int
  | none => n
  | some m => m
def slsV (T : TT) (ops : Array Oper) (i n : Nat) (s : List (Nat × AV)) (h : List (Nat × HB)) : Option (Nat × ByteArray × Option Int × Option Int) := match ops[i]? with
  | some o => match gd ops ⟨n, s, h⟩ o, o.op, o.dst with
    | some true, .slice t x lo hi none, some d => match T.lookup t, ev ⟨n, s, h⟩ x, evI ⟨n, s, h⟩ lo, evI ⟨n, s, h⟩ hi with
      | some ti, some (.one (.p (.v (.string b)))), some l, some k => match ti.kd with
        | .str => if d < n then some (d, b, l, k) else none
        | _ => none
      | _, _, _, _ => none
    | _, _, _ => none
  | none => none
theorem Yd.sls (hT : TT.ok P T) {N : List Nat} {n d : Nat} {b : ByteArray} {lo hi : Option Int} {s : List (Nat × AV)} {h : List (Nat × HB)} (hs : slsV T ops i n s h = some (d, b, lo, hi)) (h0 : 0 ≤ loI lo) (h1 : loI lo ≤ hiI b.size hi) (h2 : hiI b.size hi ≤ b.size) :
    Yd P C ops N i ⟨n, s, h⟩ d (sc (.string (b.extract (loI lo).toNat (hiI b.size hi).toNat))) := by
  unfold slsV at hs
  split at hs
  · rename_i o ho
    split at hs
    · rename_i t x lo' hi' d' hg hop hd
      split at hs
      · rename_i ti b' l' k' hti hx hlo hhi
        split at hs
        · rename_i hk1
          split at hs
          · rename_i hn
            injection hs with hs
            injection hs with hs1 hs
            injection hs with hs2 hs
            injection hs with hs3 hs4
            subst hs1 hs2 hs3 hs4
            refine Yd.of ho hg hd hn fun a w β r => ⟨_, fun w' _ => ?_, rfl, rfl⟩
            have u1 := kd_str (hT _ _ hti) hk1
            have e1 := evI_ok r hlo
            have e2 := evI_ok r hhi
            cases l' with
            | none =>
              simp only at e1
              cases k' with
              | none =>
                simp only at e2
                simp [execOp, hop, e1, e2, Instr.sliceAt, Instr.slice, run_underlying' u1, r.ev_v hx, Instr.sliceBounds, loI, hiI]
              | some k =>
                obtain ⟨o2, kk2, e2, hk2⟩ := e2
                simp only [loI, hiI] at h0 h1 h2 ⊢
                simp [execOp, hop, e1, e2, Instr.sliceAt, Instr.slice, run_underlying' u1, r.ev_v hx, Instr.sliceBounds, hk2, Instr.sliceBound, asIntOf, h1, h2]
            | some l =>
              obtain ⟨o1, kk1, e1, hk1'⟩ := e1
              cases k' with
              | none =>
                simp only at e2
                simp only [loI, hiI] at h0 h1 h2 ⊢
                simp [execOp, hop, e1, e2, Instr.sliceAt, Instr.slice, run_underlying' u1, r.ev_v hx, Instr.sliceBounds, hk1', Instr.sliceBound, asIntOf, h0, h1]
              | some k =>
                obtain ⟨o2, kk2, e2, hk2⟩ := e2
                simp only [loI, hiI] at h0 h1 h2 ⊢
                have h3 : 0 ≤ k := by omega
                have h4 : ¬ max k 0 < l := by omega
                have h5 : l ≤ max k 0 := by omega
                simp [execOp, hop, e1, e2, Instr.sliceAt, Instr.slice, run_underlying' u1, r.ev_v hx, Instr.sliceBounds, hk1', hk2, Instr.sliceBound, asIntOf, h0, h2, h3, h4, h5]
          · cases hs
        · cases hs
      · cases hs
    · cases hs
  · cases hs
theorem AwOps.sls (hT : TT.ok P T) {n d : Nat} {b : ByteArray} {lo hi : Option Int} {s : List (Nat × AV)} {h : List (Nat × HB)} (hs : slsV T ops i n s h = some (d, b, lo, hi)) (h0 : 0 ≤ loI lo) (h1 : loI lo ≤ hiI b.size hi) (h2 : hiI b.size hi ≤ b.size)
    (hK : AwOps P C ops l ⟨n, (d, sc (.string (b.extract (loI lo).toNat (hiI b.size hi).toNat))) :: s, h⟩ K) : AwOps P C ops (i :: l) ⟨n, s, h⟩ K := AwOps.yd (Yd.sls hT hs h0 h1 h2) hK
end Go.Proofs.YtbdgmondalkhlaaDoor.Aw
