
/- Arrays, made slices, rows of places.
   Conditions: none; generic in the program. -/
import Derived.Test.YtbdgmondalkhlaaDoorAwMore
import Derived.Laws.MakeOwn
namespace Go.Proofs.YtbdgmondalkhlaaDoor.Aw
open Go

variable {P : Program} {C : Ctx P} {T : TT} {σ τ : AS} {a : Act} {w w1 : World} {β β1 : Map} {ops : Array Oper} {i : Nat} {l : List Nat} {K : AS → Prop} {F : Nat → Prop}

/-! ### 1. An array in memory is a row -/
def sing (ps : List PL) : List (List PL) := ps.map fun p => [p]
theorem sing_flat : ∀ ps : List PL, (sing ps).flatten = ps
  | [] => rfl
  | p :: ps => by
    show [p] ++ (sing ps).flatten = _
    rw [sing_flat ps]
    rfl
theorem Tn.arr (t d : Nat) {n c ty : Nat} {ps : List PL} {s : List (Nat × AV)} {h : List (Nat × HB)} (hs : s.lookup t = some (.one (.ptr c 0))) (hc : h.lookup c = some (.box ⟨ty, ps, []⟩)) (hl : ps.length ≤ maxLen) (hlo : Nat.blt c 1000 = true) (hd : Nat.blt d 1000 = true) (hno : AS.no d ⟨n, s, h⟩ = true) :
    Tn ⟨n, s, h⟩ ⟨n, (t, .one (.ptr d 0)) :: s, (d, .row ty 1 true (sing ps)) :: (c, .gone) :: h⟩ := by
  rintro _ C a w ⟨β, r⟩
  replace hlo : c < 1000 := by simpa using hlo
  replace hd : d < 1000 := by simpa using hd
  obtain ⟨y, hy, hv⟩ := r.slots t _ hs
  have hok := r.heap c _ hc
  have hob : ∀ b', some c = some b' → b' < 1000 ∧ ∃ x0, h.lookup b' = some x0 := fun b' e => by injection e with e; subst e; exact ⟨hlo, _, hc⟩
  have hst : St (fun k => ∃ b' c', some c = some b' ∧ β b' = .here k c') w w := St.refl _ _
  simp only [AVs, AV.rep, AL.rep] at hv
  cases hb : β c with
  | dead => rw [hb] at hok; exact hok.elim
  | nil => rw [hb] at hok; exact hok.elim
  | here g cc =>
    rw [hb] at hok hv
    obtain ⟨arr, h1, h2, h3⟩ := hok
    have hloc : ∀ g' c', Loc.here g ps.length = .here g' c' → g' < w.heap.size ∧ (w.heap.size ≤ g' ∨ ∃ b' c'', some c = some b' ∧ β b' = .here g' c'') := fun g' c' e => by
      injection e with e1 e2
      subst e1
      exact ⟨(r.young c _ g cc hc hb).1, .inr ⟨c, cc, rfl, hb⟩⟩
    have r1 := r.row (d := d) (ob := some c) (x := .row ty 1 true (sing ps)) (loc := .here g ps.length) hno hd hob hst hloc (by
      refine ⟨arr, (0, 0), h1, fun _ => rfl, by simpa using h2, by simp [sing], hl, fun j _ => by simp, by omega, fun e he => ?_, ?_⟩
      · simp only [sing, List.mem_map] at he
        obtain ⟨p, _, rfl⟩ := he
        rfl
      · have h2' : arr.size = ps.length := h2
        rw [sing_flat, List.take_of_length_le (by simp [sing]; omega)]
        refine PL.ats_mk (by simpa using h2) fun j p u hp hu => ?_
        exact PL.at_move (row_good (x := .row ty 1 true (sing ps)) hst hloc hob) p (h3 j (.p p) u (by simp [ovAt, hp]) (by simpa using hu)).1)
    refine ⟨_, r1.same hy ?_⟩
    simp only [AVs, AV.rep, AL.rep, upd_self]
    exact hv

def idxA (T : TT) (ops : Array Oper) (i n : Nat) (s : List (Nat × AV)) (h : List (Nat × HB)) : Option (Nat × Nat × Int × Nat × Nat) := match ops[i]? with
  | some o => match gd ops ⟨n, s, h⟩ o, o.op, o.dst with
    | some true, .indexAddr t x j, some d => match T.lookup t, ev ⟨n, s, h⟩ x, ev ⟨n, s, h⟩ j with
      | some ti, some (.one (.ptr b 0)), some (.one (.p (.v (.int _ m)))) => match ti.kd, h.lookup b with
        | .arr k _ sz _, some (.row _ _ _ _) => if d < n then some (d, b, m, k, sz) else none
        | _, _ => none
      | _, _, _ => none
    | _, _, _ => none
  | none => none
theorem kd_arr {t : Nat} {ti : TI} {k e sz : Nat} {ag : Bool} (h : tiOf P t = some ti) (hk : ti.kd = .arr k e sz ag) : P.underlying t = some (.array k e) ∧ sizeT P e = some sz := by
  obtain ⟨xi, dd, z, i1, i2, i3, i4, i5, i6, i7, i8, i9⟩ := TI.info h
  rw [hk] at i6
  cases dd with
  | array n' e' =>
    simp only [tkOf] at i6
    split at i6
    · rename_i hs
      injection i6 with a1 a2 a3 a4
      subst a1 a2 a3
      exact ⟨i2, hs⟩
    · cases i6
  | struct fields => simp only [tkOf] at i6; split at i6 <;> cases i6
  | slice e' => simp only [tkOf] at i6; split at i6 <;> cases i6
  | _ => cases i6
theorem Yd.idxa (hT : TT.ok P T) {N : List Nat} {n d b k sz : Nat} {m : Int} {s : List (Nat × AV)} {h : List (Nat × HB)} (hs : idxA T ops i n s h = some (d, b, m, k, sz)) {ty sz2 : Nat} {pl : Bool} {es : List (List PL)} (hb0 : h.lookup b = some (.row ty sz2 pl es)) (h0 : 0 ≤ m) (h1 : m < k) (h2 : m.toNat < es.length) : Yd P C ops N i ⟨n, s, h⟩ d (.one (.oel b m.toNat sz 0)) := by
  unfold idxA at hs
  split at hs
  · rename_i o ho
    split at hs
    · rename_i t x j d' hg hop hd
      split at hs
      · rename_i ti b' kk m' hti hx hj
        split at hs
        · rename_i k' e sz' ag ty sz2 pl es hk hb
          split at hs
          · rename_i hn
            injection hs with hs
            injection hs with hs1 hs
            injection hs with hs2 hs
            injection hs with hs3 hs
            injection hs with hs4 hs5
            subst hs1 hs2 hs3 hs4 hs5
            obtain ⟨u1, u2⟩ := kd_arr (hT _ _ hti) hk
            obtain ⟨yi, dj, k1, k2, k3⟩ := sizeT_ok u2
            refine Yd.of ho hg hd hn fun a w β r => ?_
            have hv := r.ev hx
            have hok := r.heap b' _ hb
            simp only [AVs, AV.rep, AL.rep] at hv
            cases hl : β b' with
            | dead => rw [hl] at hok; exact hok.elim
            | nil =>
              rw [hb0] at hb
              injection hb with hb
              injection hb with q1 q2 q3 q4
              subst q4
              rw [hl] at hok
              obtain ⟨rfl, _⟩ := hok
              simp at h2
            | here g c =>
              rw [hl] at hv
              refine ⟨.pointer (some ((⟨g, 0, none⟩ : Addr).add (m'.toNat * sz'))), fun w' _ => ?_, ?_⟩
              · simp only [execOp, hop, Instr.indexAt, hv, r.ev_v hj, asIntOf, Sem.run_bind, Sem.run_pure, Result.andThen_ok, run_underlying' u1, Instr.sureAddr]
                rw [if_pos ⟨h0, h1⟩]
                simp [run_size' k1, k3]
              · simp only [AVs, AV.rep, AL.rep, hl, add_at, Nat.zero_add, Nat.add_zero]
          · cases hs
        · cases hs
      · cases hs
    · cases hs
  · cases hs

/-! ### 2. Made slices, of elements of one cell -/
def mkV (T : TT) (ops : Array Oper) (i n : Nat) (s : List (Nat × AV)) (h : List (Nat × HB)) : Option (Nat × Nat × PL × Nat × Int × Int) := match ops[i]? with
  | some o => match gd ops ⟨n, s, h⟩ o, o.op, o.dst with
    | some true, .makeSlice t x y, some d => match T.lookup t, ev ⟨n, s, h⟩ x, ev ⟨n, s, h⟩ y with
      | some ti, some (.one (.p (.v (.int _ l)))), some (.one (.p (.v (.int _ c)))) => match ti.kd with
        | .sli e 1 _ => match T.lookup e with
          | some te => match te.zero with
            | [z] => if d < n ∧ d < 1000 ∧ te.size = 1 ∧ AS.no d ⟨n, s, h⟩ = true then some (d, e, z, te.bytes, l, c) else none
            | _ => none
          | none => none
        | _ => none
      | _, _, _ => none
    | _, _, _ => none
  | none => none
theorem Ed.mk (hT : TT.ok P T) {N : List Nat} {n d e by_ : Nat} {z : PL} {m c : Int} {s : List (Nat × AV)} {h : List (Nat × HB)} (hs : mkV T ops i n s h = some (d, e, z, by_, m, c)) (h0 : 0 ≤ m) (h1 : m ≤ c) (h2 : (by_ : Int) * c ≤ 281474976710656) (h3 : c ≤ maxLen)
    (hK : K ⟨n, (d, .one (.own d m.toNat)) :: s, (d, .row e 1 true (List.replicate m.toNat [z])) :: h⟩) : Ed P C ops N i ⟨n, s, h⟩ K := by
  unfold mkV at hs
  split at hs
  · rename_i o ho
    split at hs
    · rename_i t x y d' hg hop hd
      split at hs
      · rename_i ti kl m' kc c' hti hx hy
        split at hs
        · rename_i e' ag hk
          split at hs
          · rename_i te hte
            split at hs
            · rename_i z' hz
              split at hs
              · rename_i hc
                obtain ⟨hn, hlo, hsz1, hno⟩ := hc
                injection hs with hs
                injection hs with hs1 hs
                injection hs with hs2 hs
                injection hs with hs3 hs
                injection hs with hs4 hs
                injection hs with hs5 hs6
                subst hs1 hs2 hs3 hs4 hs5 hs6
                refine Ed.of ho hg fun a w β r _ => ?_
                have u := (kd_sli (hT _ _ hti) hk).1
                obtain ⟨ye, de, ze, j1, j2, j3, j4, j5, j6, j7, j8, j9⟩ := TI.info (hT _ _ hte)
                have hsz : ye.size = 1 := by rw [j4, hsz1]
                have hcell : ze.cells.toList = [ze.cells.toList.headD undef] ∧ z' = cpl (ze.cells.toList.headD undef) := by
                  rw [hz] at j8
                  cases hl : ze.cells.toList with
                  | nil => rw [hl] at j8; cases j8
                  | cons u us =>
                    rw [hl] at j8
                    cases us with
                    | nil => simp at j8; exact ⟨rfl, j8.symm⟩
                    | cons _ _ => simp at j8
                generalize ze.cells.toList.headD undef = u0 at hcell
                have hu0 : leaf u0 = true := List.all_eq_true.1 j9 _ (by rw [hcell.1]; simp)
                have hza : ze.cells = #[u0] := by apply Array.ext'; simpa using hcell.1
                have hcells : madeCells ze.cells (c'.toNat * ye.size) = Array.replicate c'.toNat u0 := by
                  apply Array.ext
                  · simp [madeCells, hsz]
                  · intro j h1 h2
                    simp [madeCells, hza, Nat.mod_one]
                have hrun : (execOp a.eval o).run P w = .ok (.value (.slice (some ⟨w.heap.size, 0, none⟩) m'.toNat c'.toNat)) { w with heap := w.heap.push (.cells (Array.replicate c'.toNat u0) e') } := by
                  have hml : (maxLen : Int) ≤ 9223372036854775807 := by decide
                  have := run_make (P := P) w t e' ye ze u j1 j3 kl kc m' c' h0 h1 (by rw [j5]; exact h2) (Int.le_trans h3 hml)
                  rw [hcells] at this
                  simp only [execOp, hop, r.ev_v hx, r.ev_v hy, Sem.run_bind, this, Result.andThen_ok, Sem.run_pure]
                  rfl
                simp only [Oper.wp, hrun, Oper.upon_value, hd]
                have hst : ∀ M, St M w { w with heap := w.heap.push (.cells (Array.replicate c'.toNat u0) e') } := fun M => St.push M w _
                have hlc : m'.toNat ≤ c'.toNat := by omega
                have r1 := r.new (d := d') (g := w.heap.size) (c := c'.toNat) (x := .row e' 1 true (List.replicate m'.toNat [z'])) hno hlo (hst _) (Nat.le_refl _) (by simp) (by
                  refine ⟨Array.replicate c'.toNat u0, (0, 0), by simp, fun _ => rfl, by simp, by simpa using hlc, by omega, fun j _ => by simp, by omega, fun f hf => by rw [List.eq_of_mem_replicate hf]; rfl, ?_⟩
                  have hfl : (List.replicate m'.toNat [z']).flatten = List.replicate m'.toNat z' := by
                    induction m'.toNat with
                    | zero => rfl
                    | succ k ih => rw [List.replicate_succ, List.replicate_succ, List.flatten_cons, ih]; rfl
                  rw [hfl]
                  refine PL.ats_mk (by simp [hlc]) fun j p y hp hy => ?_
                  have hjp := getElem?_prop hp
                  rw [List.getElem?_eq_getElem hjp] at hp
                  have hjy := getElem?_prop hy
                  rw [List.getElem?_eq_getElem hjy] at hy
                  injection hp with hp
                  injection hy with hy
                  rw [← hp, ← hy]
                  simp only [List.getElem_replicate, List.getElem_take, Array.toList_replicate, hcell.2]
                  exact cpl_at _ _ hu0)
                refine ⟨_, _, hK, r1.put hn ?_, Mv.new (hst _) (Nat.le_refl _)⟩
                simp only [AVs, AV.rep, AL.rep, upd_self]
                exact ⟨trivial, hlc⟩
              · cases hs
            · cases hs
          · cases hs
        · cases hs
      · cases hs
    · cases hs
  · cases hs
theorem AwOps.mk (hT : TT.ok P T) {n d e by_ : Nat} {z : PL} {m c : Int} {s : List (Nat × AV)} {h : List (Nat × HB)} (hs : mkV T ops i n s h = some (d, e, z, by_, m, c)) (h0 : 0 ≤ m) (h1 : m ≤ c) (h2 : (by_ : Int) * c ≤ 281474976710656) (h3 : c ≤ maxLen)
    (hK : AwOps P C ops l ⟨n, (d, .one (.own d m.toNat)) :: s, (d, .row e 1 true (List.replicate m.toNat [z])) :: h⟩ K) : AwOps P C ops (i :: l) ⟨n, s, h⟩ K :=
  AwOps.ed (N := []) (Ed.mk hT hs h0 h1 h2 h3 hK)
theorem AwOps.idxa (hT : TT.ok P T) {n d b k sz : Nat} {m : Int} {s : List (Nat × AV)} {h : List (Nat × HB)} (hs : idxA T ops i n s h = some (d, b, m, k, sz)) {ty sz2 : Nat} {pl : Bool} {es : List (List PL)} (hb0 : h.lookup b = some (.row ty sz2 pl es)) (h0 : 0 ≤ m) (h1 : m < k) (h2 : m.toNat < es.length)
    (hK : AwOps P C ops l ⟨n, (d, .one (.oel b m.toNat sz 0)) :: s, h⟩ K) : AwOps P C ops (i :: l) ⟨n, s, h⟩ K := AwOps.yd (Yd.idxa hT hs hb0 h0 h1 h2) hK
end Go.Proofs.YtbdgmondalkhlaaDoor.Aw
