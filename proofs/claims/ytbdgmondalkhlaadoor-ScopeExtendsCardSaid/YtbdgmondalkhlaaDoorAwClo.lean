
/- Function values with places of variables.
   Conditions: none; generic in the program. -/
import Derived.Test.YtbdgmondalkhlaaDoorAwLast
namespace Go.Proofs.YtbdgmondalkhlaaDoor.Aw
open Go
variable {P : Program} {C : Ctx P} {T : TT} {ops : Array Oper} {i : Nat} {l : List Nat} {K : AS → Prop}
def evP (σ : AS) : List Operand → Option (List (Nat × Nat))
  | [] => some []
  | x :: r => match ev σ x, evP σ r with
    | some (.one (.ptr b o)), some s => some ((b, o) :: s)
    | _, _ => none
theorem evP_get {σ : AS} : ∀ {xs : List Operand} {ys : List (Nat × Nat)}, evP σ xs = some ys → xs.length = ys.length ∧ ∀ (j b o : Nat), ys[j]? = some (b, o) → ∃ x, xs[j]? = some x ∧ ev σ x = some (.one (.ptr b o))
  | [], ys, h => by
    injection h with h
    subst h
    exact ⟨rfl, fun j b o hj => by simp at hj⟩
  | x :: r, ys, h => by
    unfold evP at h
    split at h
    · rename_i b s o h1 h2
      injection h with h
      subst h
      obtain ⟨g1, g2⟩ := evP_get h2
      refine ⟨by simp [g1], fun j b' o' hj => ?_⟩
      cases j with
      | zero =>
        simp at hj
        obtain ⟨rfl, rfl⟩ := hj
        exact ⟨x, rfl, h1⟩
      | succ j =>
        obtain ⟨y, hy, he⟩ := g2 j b' o' (by simpa using hj)
        exact ⟨y, by simpa using hy, he⟩
    · cases h
def mkfV (ops : Array Oper) (i n : Nat) (s : List (Nat × AV)) (h : List (Nat × HB)) : Option (Nat × Go.Fn × List (Nat × Nat)) := match ops[i]? with
  | some o => match gd ops ⟨n, s, h⟩ o, o.op, o.dst with
    | some true, .makeFunc fn first caps, some d => if first.size = 0 then (match evP ⟨n, s, h⟩ caps.toList with
      | some l => if d < n then some (d, fn, l) else none
      | none => none) else none
    | _, _, _ => none
  | none => none
/-- A function value is made. -/
theorem Yd.mkf {N : List Nat} {n d : Nat} {fn : Go.Fn} {cs : List (Nat × Nat)} {s : List (Nat × AV)} {h : List (Nat × HB)} (hs : mkfV ops i n s h = some (d, fn, cs)) : Yd P C ops N i ⟨n, s, h⟩ d (.one (.clo fn cs)) := by
  unfold mkfV at hs
  split at hs
  · rename_i o ho
    split at hs
    · rename_i fn' first caps d' hg hop hd
      split at hs
      · rename_i h0
        split at hs
        · rename_i l' he
          split at hs
          · rename_i hn
            injection hs with hs
            injection hs with h1 h2
            injection h2 with h2 h3
            subst h1 h2 h3
            obtain ⟨g1, g2⟩ := evP_get he
            obtain rfl : first = #[] := Array.eq_empty_of_size_eq_zero h0
            refine Yd.of ho hg hd hn fun a w β r => ⟨.func fn' #[] (caps.map a.eval), fun w' _ => by simp [execOp, hop, Instr.makeFunc], caps.map a.eval, rfl, by simpa using g1, fun j b o hj => ?_⟩
            obtain ⟨x, hx, hex⟩ := g2 j b o hj
            have hv := r.ev hex
            simp only [AVs, AV.rep, AL.rep] at hv
            have hx' : caps[j]? = some x := by simpa using hx
            cases hb : β b with
            | dead => trivial
            | nil => trivial
            | here g c =>
              rw [hb] at hv
              simp only [Array.getElem?_map, hx', Option.map_some, hv]
          · cases hs
        · cases hs
      · cases hs
    · cases hs
  · cases hs
theorem AwOps.mkf {n d : Nat} {fn : Go.Fn} {cs : List (Nat × Nat)} {s : List (Nat × AV)} {h : List (Nat × HB)} (hs : mkfV ops i n s h = some (d, fn, cs))
    (hK : AwOps P C ops l ⟨n, (d, .one (.clo fn cs)) :: s, h⟩ K) : AwOps P C ops (i :: l) ⟨n, s, h⟩ K := AwOps.yd (Yd.mkf hs) hK
def mk1V (T : TT) (ops : Array Oper) (i n : Nat) (s : List (Nat × AV)) (h : List (Nat × HB)) : Option (Nat × Nat × List PL × Nat × Nat) := match ops[i]? with
  | some o => match gd ops ⟨n, s, h⟩ o, o.op, o.dst with
    | some true, .makeSlice t x y, some d => match T.lookup t, ev ⟨n, s, h⟩ x, ev ⟨n, s, h⟩ y with
      | some ti, some (.one (.p (.v (.int _ l)))), some (.one (.p (.v (.int _ c)))) => match ti.kd with
        | .sli e k _ => match T.lookup e with
          | some te => if d < n ∧ d < 1000 ∧ te.size = k ∧ 0 < k ∧ te.zero.length = k ∧ (l = 1 ∧ c = 1) ∧ AS.no d ⟨n, s, h⟩ = true then some (d, e, te.zero, te.bytes, k) else none
          | none => none
        | _ => none
      | _, _, _ => none
    | _, _, _ => none
  | none => none
theorem Ed.mk1 (hT : TT.ok P T) {N : List Nat} {n d e by_ sz : Nat} {z : List PL} {s : List (Nat × AV)} {h : List (Nat × HB)} (hs : mk1V T ops i n s h = some (d, e, z, by_, sz)) (h2 : (by_ : Int) * 1 ≤ 281474976710656)
    (hK : K ⟨n, (d, .one (.own d 1)) :: s, (d, .row e sz true [z]) :: h⟩) : Ed P C ops N i ⟨n, s, h⟩ K := by
  unfold mk1V at hs
  split at hs
  · rename_i o ho
    split at hs
    · rename_i t x y d' hg hop hd
      split at hs
      · rename_i ti kl m' kc c' hti hx hy
        split at hs
        · rename_i e' k ag hk
          split at hs
          · rename_i te hte
            split at hs
            · rename_i hc
              obtain ⟨hn, hlo, hsz1, hsz0, hzl, ⟨hm1, hc1⟩, hno⟩ := hc
              injection hs with hs
              injection hs with hs1 hs
              injection hs with hs2 hs
              injection hs with hs3 hs
              injection hs with hs4 hs5
              subst hs1 hs2 hs3 hs4 hs5 hm1 hc1
              refine Ed.of ho hg fun a w β r _ => ?_
              have u := (kd_sli (hT _ _ hti) hk).1
              obtain ⟨ye, de, ze, j1, j2, j3, j4, j5, j6, j7, j8, j9⟩ := TI.info (hT _ _ hte)
              have hsz : ye.size = k := by rw [j4, hsz1]
              have hzs : ze.cells.size = k := by have := congrArg List.length j8; rw [List.length_map, hzl] at this; simpa using this
              have hcells : madeCells ze.cells ((1 : Int).toNat * ye.size) = ze.cells := by
                apply Array.ext
                · simp [madeCells, hsz, hzs]
                · intro j h1 h2
                  simp [madeCells, Nat.mod_eq_of_lt h2, h2]
              have hrun : (execOp a.eval o).run P w = .ok (.value (.slice (some ⟨w.heap.size, 0, none⟩) 1 1)) { w with heap := w.heap.push (.cells ze.cells e') } := by
                have := run_make (P := P) w t e' ye ze u j1 j3 kl kc 1 1 (by decide) (by decide) (by rw [j5]; exact h2) (by decide)
                rw [hcells] at this
                simp only [execOp, hop, r.ev_v hx, r.ev_v hy, Sem.run_bind, this, Result.andThen_ok, Sem.run_pure]
                rfl
              simp only [Oper.wp, hrun, Oper.upon_value, hd]
              have hst : ∀ M, St M w { w with heap := w.heap.push (.cells ze.cells e') } := fun M => St.push M w _
              have r1 := r.new (d := d') (g := w.heap.size) (c := 1) (x := .row e' k true [te.zero]) hno hlo (hst _) (Nat.le_refl _) (by simp) (by
                refine ⟨ze.cells, (0, 0), by simp, fun _ => rfl, by simp [hzs], by simp, by decide, fun j _ => by simp, by omega, fun f hf => by rw [List.mem_singleton.1 hf]; exact hzl, ?_⟩
                have hfl : [te.zero].flatten = te.zero := by simp
                have htk : ze.cells.toList.take (1 * k) = ze.cells.toList := List.take_of_length_le (by rw [Array.length_toList]; omega)
                rw [hfl]
                refine PL.ats_mk (by simp [hzs, hzl]) fun j p y hp hy => ?_
                rw [← j8, List.getElem?_map] at hp
                have hy2 : ze.cells.toList[j]? = some y := by
                  have := hy
                  rw [List.getElem?_take] at this
                  split at this
                  · exact this
                  · cases this
                rw [hy2] at hp
                injection hp with hp
                rw [← hp]
                exact cpl_at _ _ (List.all_eq_true.1 j9 _ (List.mem_of_getElem? hy2)))
              refine ⟨_, _, hK, r1.put hn ?_, Mv.new (hst _) (Nat.le_refl _)⟩
              simp only [AVs, AV.rep, AL.rep, upd_self]
              exact ⟨trivial, Nat.le_refl _⟩
            · cases hs
          · cases hs
        · cases hs
      · cases hs
    · cases hs
  · cases hs
theorem AwOps.mk1 (hT : TT.ok P T) {n d e by_ sz : Nat} {z : List PL} {s : List (Nat × AV)} {h : List (Nat × HB)} (hs : mk1V T ops i n s h = some (d, e, z, by_, sz)) (h2 : (by_ : Int) * 1 ≤ 281474976710656)
    (hK : AwOps P C ops l ⟨n, (d, .one (.own d 1)) :: s, (d, .row e sz true [z]) :: h⟩ K) : AwOps P C ops (i :: l) ⟨n, s, h⟩ K :=
  AwOps.ed (N := []) (Ed.mk1 hT hs h2 hK)
section
variable {P : Program}
def bor (a b : Int) : Int := IntKind.wrap .i64 ((BitVec.ofInt IntKind.i64.bits a ||| BitVec.ofInt IntKind.i64.bits b).toNat : Int)
theorem bor_run {t : TypeId} {x y : Operand} {a b : Int} : BinRun P .or t x y (.int .i64 a) (.int .i64 b) (.int .i64 (bor a b)) := fun w => by
  rw [Sem.run_bind]
  show ((binOp .or t (.int .i64 a) (.int .i64 b))).run P w = _
  simp [binOp, Op.intBits, bor]
def bdiff (a b : Int) : Int := IntKind.wrap .i64 ((BitVec.ofInt IntKind.i64.bits a &&& ~~~ BitVec.ofInt IntKind.i64.bits b).toNat : Int)
theorem bdiff_run {t : TypeId} {x y : Operand} {a b : Int} : BinRun P .andNot t x y (.int .i64 a) (.int .i64 b) (.int .i64 (bdiff a b)) := fun w => by
  rw [Sem.run_bind]
  show ((binOp .andNot t (.int .i64 a) (.int .i64 b))).run P w = _
  simp [binOp, Op.intBits, bdiff]
end
end Go.Proofs.YtbdgmondalkhlaaDoor.Aw
