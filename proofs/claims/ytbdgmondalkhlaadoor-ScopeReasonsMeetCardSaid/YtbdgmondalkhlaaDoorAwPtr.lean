
/- A slice of three places of variables.
   Conditions: none; generic in the program. -/
import Derived.Test.YtbdgmondalkhlaaDoorAwLast
namespace Go.Proofs.YtbdgmondalkhlaaDoor.Aw
open Go

variable {P : Program} {C : Ctx P} {T : TT} {σ τ : AS} {a : Act} {w w1 : World} {β β1 : Map} {ops : Array Oper} {i : Nat} {l : List Nat} {K : AS → Prop} {F : Nat → Prop}

/-- The place of an element of a slice whose row is a variable. -/
theorem Yd.idxp (hT : TT.ok P T) {N : List Nat} {n d b m' : Nat} {m : Int} {s : List (Nat × AV)} {h : List (Nat × HB)} {B : Box} (hs : idxV T ops i n s h = some (d, .one (.own b m'), m, 1)) (hb : h.lookup b = some (.box B)) (h0 : 0 ≤ m) (h1 : m.toNat < m') :
    Yd P C ops N i ⟨n, s, h⟩ d (.one (.ptr b m.toNat)) := by
  obtain ⟨o, ho, hg, hd, hn, hsz, hrun⟩ := idxV_ok (C := C) hT hs
  refine Yd.of ho hg hd hn fun a w β r => ?_
  obtain ⟨x, hv, hx⟩ := hrun a w β r
  have hok := r.heap b _ hb
  simp only [AVs, AV.rep, AL.rep] at hv
  cases hl : β b with
  | dead => rw [hl] at hok; exact hok.elim
  | nil => rw [hl] at hok; exact hok.elim
  | here g c =>
    rw [hl] at hv
    have := hx _ _ _ hv.1 h0 (by omega)
    refine ⟨_, fun w' _ => this w', ?_⟩
    simp only [AVs, AV.rep, AL.rep, hl, add_at, Nat.zero_add, Nat.mul_one]
theorem AwOps.idxp (hT : TT.ok P T) {n d b m' : Nat} {m : Int} {s : List (Nat × AV)} {h : List (Nat × HB)} {B : Box} (hs : idxV T ops i n s h = some (d, .one (.own b m'), m, 1)) (hb : h.lookup b = some (.box B)) (h0 : 0 ≤ m) (h1 : m.toNat < m')
    (hK : AwOps P C ops l ⟨n, (d, .one (.ptr b m.toNat)) :: s, h⟩ K) : AwOps P C ops (i :: l) ⟨n, s, h⟩ K := AwOps.yd (Yd.idxp hT hs hb h0 h1) hK

theorem set3 (f : Nat → Value) (a b c : Value) : ((((Array.map f (Array.range 3)).setIfInBounds 0 a).setIfInBounds 1 b).setIfInBounds 2 c) = #[a, b, c] := by
  have : Array.map f (Array.range 3) = #[f 0, f 1, f 2] := by
    apply Array.ext'
    simp [List.range_succ]
  rw [this]
  rfl
def isBox (h : List (Nat × HB)) (b : Nat) : Bool := match h.lookup b with
  | some (.box _) => true
  | _ => false
def litPV (T : TT) (ops : Array Oper) (i n : Nat) (s : List (Nat × AV)) (h : List (Nat × HB)) : Option (Nat × Nat × (Nat × Nat) × (Nat × Nat) × (Nat × Nat)) := match ops[i]? with
  | some o => match gd ops ⟨n, s, h⟩ o, o.op, o.dst with
    | some true, .buildSlice t 3 parts, some d => match T.lookup t, parts.toList with
      | some ti, [(0, x), (1, y), (2, z)] => match ti.kd, ev ⟨n, s, h⟩ x, ev ⟨n, s, h⟩ y, ev ⟨n, s, h⟩ z with
        | .sli e 1 _, some (.one (.ptr b0 o0)), some (.one (.ptr b1 o1)), some (.one (.ptr b2 o2)) => match T.lookup e with
          | some te => if d < n ∧ d < 1000 ∧ AS.no d ⟨n, s, h⟩ = true ∧ te.zero.length = 1 ∧ (b0 ≠ d ∧ b1 ≠ d ∧ b2 ≠ d) ∧ (isBox h b0 && (isBox h b1 && isBox h b2)) = true then some (d, e, (b0, o0), (b1, o1), (b2, o2)) else none
          | none => none
        | _, _, _, _ => none
      | _, _ => none
    | _, _, _ => none
  | none => none
theorem ptr_at {n b o : Nat} {s : List (Nat × AV)} {h : List (Nat × HB)} {x : Operand} (r : Rel C ⟨n, s, h⟩ a w β) (hx : ev ⟨n, s, h⟩ x = some (.one (.ptr b o))) (hb : isBox h b = true) : ∃ g, a.eval x = .pointer (some ⟨g, o, none⟩) ∧ ∃ c, β b = .here g c := by
  have hv := r.ev hx
  unfold isBox at hb
  split at hb
  · rename_i B hB
    have hok := r.heap b _ hB
    simp only [AVs, AV.rep, AL.rep] at hv
    cases hl : β b with
    | dead => rw [hl] at hok; exact hok.elim
    | nil => rw [hl] at hok; exact hok.elim
    | here g c => rw [hl] at hv; exact ⟨g, hv, c, rfl⟩
  · cases hb
theorem Ed.litP (hT : TT.ok P T) {N : List Nat} {n d e : Nat} {p0 p1 p2 : Nat × Nat} {s : List (Nat × AV)} {h : List (Nat × HB)} (hs : litPV T ops i n s h = some (d, e, p0, p1, p2))
    (hK : K ⟨n, (d, .one (.own d 3)) :: s, (d, .box ⟨e, [.sl [], .sl [], .sl []], [(0, .ptr p0.1 p0.2), (1, .ptr p1.1 p1.2), (2, .ptr p2.1 p2.2)]⟩) :: h⟩) : Ed P C ops N i ⟨n, s, h⟩ K := by
  unfold litPV at hs
  split at hs
  · rename_i o ho
    split at hs
    · rename_i t parts d' hg hop hd
      split at hs
      · rename_i ti x y z hti hparts
        split at hs
        · rename_i e' ag b0 o0 b1 o1 b2 o2 hk hx hy hz
          split at hs
          · rename_i te hte
            split at hs
            · rename_i hc
              obtain ⟨hn, hlo, hno, hz0, hne, hbx⟩ := hc
              simp only [Bool.and_eq_true] at hbx
              injection hs with hs
              injection hs with hs1 hs
              injection hs with hs2 hs
              injection hs with hs3 hs
              injection hs with hs4 hs5
              subst hs1 hs2 hs3 hs4 hs5
              refine Ed.of ho hg fun a w β r _ => ?_
              obtain ⟨xi, dd, zz, i1, i2, i3, i4, i5, i6, i7, i8, i9⟩ := TI.info (hT _ _ hti)
              obtain ⟨ye, de, ze, j1, j2, j3, j4, j5, j6, j7, j8, j9⟩ := TI.info (hT _ _ hte)
              have hdd : dd = .slice e' ∧ sizeT P e' = some 1 := by
                rw [hk] at i6
                cases dd <;> simp only [tkOf] at i6 <;> first | cases i6; done | skip
                all_goals first | (split at i6 <;> first | (cases i6; done) | (rename_i hs'; injection i6 with a1 a2; subst a1 a2; exact ⟨rfl, hs'⟩)) | cases i6
              obtain ⟨rfl, hsz'⟩ := hdd
              obtain ⟨yi, dj, k1, k2, k3⟩ := sizeT_ok hsz'
              obtain ⟨g0, e0, c0, f0⟩ := ptr_at r hx hbx.1
              obtain ⟨g1, e1, c1, f1⟩ := ptr_at r hy hbx.2.1
              obtain ⟨g2, e2, c2, f2⟩ := ptr_at r hz hbx.2.2
              let cs : Array Value := #[.pointer (some ⟨g0, o0, none⟩), .pointer (some ⟨g1, o1, none⟩), .pointer (some ⟨g2, o2, none⟩)]
              have hst : ∀ M, St M w { w with heap := w.heap.push (.cells cs e') } := fun M => St.push M w _
              have hp : parts = #[(0, x), (1, y), (2, z)] := by apply Array.ext'; simpa using hparts
              have hrun : (execOp a.eval o).run P w = .ok (.value (.slice (some ⟨w.heap.size, 0, none⟩) 3 3)) { w with heap := w.heap.push (.cells cs e') } := by
                simp only [execOp, hop, Instr.buildSlice, Sem.run_bind, run_underlying' i2, Result.andThen_ok, run_size' k1, k3]
                rw [if_neg (by decide)]
                simp only [Sem.run_bind, Sem.run_pure, Result.andThen_ok]
                rw [if_neg (by decide)]
                simp only [Sem.run_bind, run_zero' j1 j3, Result.andThen_ok, Sem.run_pure]
                rw [hp]
                simp [Instr.fill, e0, e1, e2, Value.cells, newRow, newObj, Sem.run, cs]
                rw [set3]
              have r1 := r.new (d := d') (g := w.heap.size) (c := 3) (x := .box ⟨e', [.sl [], .sl [], .sl []], [(0, .ptr b0 o0), (1, .ptr b1 o1), (2, .ptr b2 o2)]⟩) hno hlo (hst _) (Nat.le_refl _) (by simp) (by
                refine ⟨cs, by simp, rfl, fun j q u hq hu => ?_⟩
                match j, hq, hu with
                | 0, hq, hu =>
                  simp [ovAt, List.lookup] at hq; subst hq
                  simp [cs] at hu; subst hu
                  exact ⟨by simp only [ALs, AL.rep, upd_ne _ _ hne.1, f0], rfl⟩
                | 1, hq, hu =>
                  simp [ovAt, List.lookup] at hq; subst hq
                  simp [cs] at hu; subst hu
                  exact ⟨by simp only [ALs, AL.rep, upd_ne _ _ hne.2.1, f1], rfl⟩
                | 2, hq, hu =>
                  simp [ovAt, List.lookup] at hq; subst hq
                  simp [cs] at hu; subst hu
                  exact ⟨by simp only [ALs, AL.rep, upd_ne _ _ hne.2.2, f2], rfl⟩
                | j + 3, hq, hu => simp [cs] at hu)
              simp only [Oper.wp, hrun, Oper.upon_value, hd]
              refine ⟨_, _, hK, r1.put hn ?_, Mv.new (hst _) (Nat.le_refl _)⟩
              simp only [AVs, AV.rep, AL.rep, upd_self]
              exact ⟨trivial, Nat.le_refl _⟩
            · cases hs
          · cases hs
        · cases hs
      · cases hs
    · cases hs
  · cases hs
theorem AwOps.litP (hT : TT.ok P T) {n d e : Nat} {p0 p1 p2 : Nat × Nat} {s : List (Nat × AV)} {h : List (Nat × HB)} (hs : litPV T ops i n s h = some (d, e, p0, p1, p2))
    (hK : AwOps P C ops l ⟨n, (d, .one (.own d 3)) :: s, (d, .box ⟨e, [.sl [], .sl [], .sl []], [(0, .ptr p0.1 p0.2), (1, .ptr p1.1 p1.2), (2, .ptr p2.1 p2.2)]⟩) :: h⟩ K) : AwOps P C ops (i :: l) ⟨n, s, h⟩ K :=
  AwOps.ed (N := []) (Ed.litP hT hs hK)

def lenPV (T : TT) (ops : Array Oper) (i n : Nat) (s : List (Nat × AV)) (h : List (Nat × HB)) : Option (Nat × Nat) := match ops[i]? with
  | some o => match gd ops ⟨n, s, h⟩ o, o.op, o.dst with
    | some true, .call c, some d => match c.callee, c.args.toList, c.argTypes.toList with
      | .builtin .len, [x], [t] => match T.lookup t, ev ⟨n, s, h⟩ x with
        | some ti, some (.one (.own b m)) => match ti.kd with
          | .sli _ _ _ => if isBox h b = true ∧ d < n then some (d, m) else none
          | _ => none
        | _, _ => none
      | _, _, _ => none
    | _, _, _ => none
  | none => none
theorem Yd.lenP (hT : TT.ok P T) {N : List Nat} {n d m : Nat} {s : List (Nat × AV)} {h : List (Nat × HB)} (hs : lenPV T ops i n s h = some (d, m)) : Yd P C ops N i ⟨n, s, h⟩ d (sc (.int .i64 m)) := by
  unfold lenPV at hs
  split at hs
  · rename_i o ho
    split at hs
    · rename_i c d' hg hop hd
      split at hs
      · rename_i x t hc hargs htys
        split at hs
        · rename_i ti b m' hti hx
          split at hs
          · rename_i e1 e2 e3 hk
            split at hs
            · rename_i hcond
              injection hs with hs
              injection hs with hs1 hs2
              subst hs1 hs2
              obtain ⟨xi, dd, z, i1, i2, i3, i4, i5, i6, i7, _⟩ := TI.info (hT _ _ hti)
              have hca : c.args = #[x] := by
                apply Array.ext'
                simpa using hargs
              have hct : c.argTypes = #[t] := by
                apply Array.ext'
                simpa using htys
              obtain ⟨e, rfl⟩ : ∃ e, dd = .slice e := by
                rw [hk] at i6
                cases dd <;> simp only [tkOf] at i6 <;> first | exact ⟨_, rfl⟩ | (split at i6 <;> cases i6; done) | cases i6
              refine Yd.of ho hg hd hcond.2 fun a w β r => ?_
              have hv := r.ev hx
              have hbx := hcond.1
              unfold isBox at hbx
              split at hbx
              · rename_i B hB
                have hok := r.heap b _ hB
                simp only [AVs, AV.rep, AL.rep] at hv
                cases hl : β b with
                | dead => rw [hl] at hok; exact hok.elim
                | nil => rw [hl] at hok; exact hok.elim
                | here g c =>
                  rw [hl] at hv
                  have hy := hv.1
                  exact ⟨_, fun w' _ => by simp [execOp, hop, resolve, hc, hca, hct, invoke, builtin, Builtin.len_, run_underlying' i2, hy, goInt], rfl, rfl⟩
              · cases hbx
            · cases hs
          · cases hs
        · cases hs
      · cases hs
    · cases hs
  · cases hs
theorem AwOps.lenP (hT : TT.ok P T) {n d m : Nat} {s : List (Nat × AV)} {h : List (Nat × HB)} (hs : lenPV T ops i n s h = some (d, m)) (hK : AwOps P C ops l ⟨n, (d, sc (.int .i64 m)) :: s, h⟩ K) : AwOps P C ops (i :: l) ⟨n, s, h⟩ K := AwOps.yd (Yd.lenP hT hs) hK
end Go.Proofs.YtbdgmondalkhlaaDoor.Aw
