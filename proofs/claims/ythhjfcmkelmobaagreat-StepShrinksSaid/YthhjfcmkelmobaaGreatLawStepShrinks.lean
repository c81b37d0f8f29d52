
/- The row of the law StepShrinks, over our own walk: every reading of the arguments tells pure data, and the walk answers true.
   Conditions: none. -/
import Derived.Test.YthhjfcmkelmobaaGreatRows
import Derived.Test.YthhjfcmkelmobaaGreatAwOpen
import Derived.Test.YthhjfcmkelmobaaGreatLwShrinks
import Derived.WalkKit
import Derived.ProofKit
import Derived.OpenShut
import Derived.ShutString
import Derived.ChangeOld
import Derived.Below
import Derived.SizedLaws
namespace Go.Proofs.YthhjfcmkelmobaaGreat.stepShrinks
open Go.ChangeShapes Go.WideShapes Go.ChangeAt Go.RowKit
open Go.Proofs.YthhjfcmkelmobaaGreat.Aw
set_option linter.unusedVariables false
theorem own : ownKnob Tryz.prog.godebug = none := by kernel_rfl
theorem laidOut : laidOutB Tryz.prog = true := by kernel_rfl
theorem op3 {w : World} : Opens Tryz.prog w 3 (fun n : Int => [.v (.int .i64 n)]) := opens_int Tryz.underlying3
theorem op22 {w : World} : Opens Tryz.prog w 22 (fun l : List (Int) => [.sl (l.map eI)]) := opens_slice Tryz.underlying22 (by kernel_rfl) (opens_map (g := eI) id op3 (fun _ => rfl))
set_option maxRecDepth 100000 in
theorem lifted (os : Os) (started : os.Started) (H : Type) (enc : TypeId × Value → H) :
    ReturnsInHanded {} Tryz.checked os 3 .any (Rows.stepShrinksSpec.pre6 enc Tryz.prog Tryz.f3 Rows.stepShrinksRow.domain false) (Rows.stepShrinksSpec.post enc Tryz.prog Tryz.f3 false true false false) := by
  refine returnsInHanded_of_change_sized (C := Tryz.checked) own started (by kernel_rfl) Tryz.func3
    (ChangeSpec.witness6 (enc := enc) (C := Tryz.checked) false ⟨#[], #[.slice none 0 0], []⟩ 8 (by kernel_rfl) (by kernel_rfl) (by kernel_rfl) (by kernel_rfl)) ?_
  intro W base args ds gs before hval0 hW hcnd hsz0 _
  have hsz : (DataW.weightsEach Tryz.prog (Tryz.f3.params.toList ++ Rows.stepShrinksSpec.plain.varTypes Tryz.prog) (ds ++ gs)).all (· ≤ reachBytes) = true := hsz0
  have hval : ∀ (j : Nat) t v, Tryz.f3.params[j]? = some t → args[j]? = some v → Value.okWide Tryz.prog W .any base t v := hval0
  have hW' := hW
  obtain ⟨p, q, hA0, hV, rfl, hfz, hnd⟩ := hW
  have hA : DataW.TrodAll enc Tryz.prog W 0 (fun _ => true) true Tryz.f3.params.toList args.toList ds p := hA0
  rw [Tryz.params3] at hA hval hsz
  obtain ⟨v0, vs0, d0, ds0, p0, q0, hargs, rfl, rfl, h0, r0⟩ := trodAll_cons hA
  obtain ⟨rfl, rfl, rfl⟩ := trodAll_nil r0
  obtain rfl : args = #[v0] := by cases args; simp_all
  obtain ⟨rfl, rfl⟩ := trodVars_none hV
  have lt0 : ∀ x ∈ p0, x.block < W.heap.size := by obtain ⟨m, hm⟩ := h0; exact DataW.trod_lt m _ _ _ hm
  obtain ⟨a0, l0, k0, rfl⟩ := okWide_slice Tryz.underlying22 (hval 0 22 v0 rfl rfl)
  obtain ⟨x0, e0⟩ := opens_one (op22 (w := W)) rfl h0
  have g0 := h0
  clear hA0 hval0 hsz0 hsz
  have walk : Calls Tryz.prog 3 #[.slice a0 l0 k0] W fun e w' => e = .returned (.bool true) ∧ Below W.heap.size W w' := by
    refine ((Aw.F130 x0).2 (fun _ => False) W #[.slice a0 l0 k0] [] rfl (by simp) (by simp) (fun _ h => h.elim) (by simp) rfl ?_).mono ?_
    · intro j x y hx hy
      match j, hx, hy with
      | 0, hx, hy =>
        replace hx : some _ = some x := hx
        replace hy : some _ = some y := hy
        injection hx with hx
        injection hy with hy
        subst hx hy
        exact ⟨rfl, e0⟩
      | j + 1, hx, hy => simp at hx
    · rintro e w' ⟨r, H', y, rfl, rfl, _, hv, _, _, st⟩
      exact ⟨by rw [show y = .bool true from hv.1], ⟨st.os, st.tape, st.output, st.size, fun k hk => st.same k hk (by simp)⟩⟩
  refine walk.mono fun e W' ⟨he, bel⟩ => ?_
  subst he
  exact ⟨_, rfl, _, _, _, [], _, [], hW', trodAll_mk1 (shut_bool Tryz.underlying4 _), (trodAll_cons_mk (Below.trod laidOut (by kernel_rfl) (of_decide_eq_true (by kernel_rfl)) g0 bel lt0) trodAll_mk0), rfl, bel.frame _, fun h => by cases h⟩
theorem over : Rows.stepShrinksRow.holds Tryz.pinned (OpenSpec.ofChange Rows.stepShrinksSpec) :=
  OpenClaim.holds_of_wide 3 Tryz.f3 rfl rfl rfl rfl rfl rfl rfl ⟨rfl, rfl, rfl, rfl, rfl⟩ rfl rfl rfl rfl rfl (by kernel_rfl) Tryz.func3 (by kernel_rfl)
    (of_decide_eq_true (by kernel_rfl)) (by unfold Func.isWrapper; first | (rw [if_pos (by decide +kernel)]; kernel_rfl) | (rw [if_neg (by decide +kernel)]; exact ⟨rfl, rfl⟩))
    (fun os started H enc _ => lifted os started H enc)
theorem proved : Rows.StepShrinksSaid := over
#print axioms proved
end Go.Proofs.YthhjfcmkelmobaaGreat.stepShrinks
namespace Go.Proofs.YthhjfcmkelmobaaGreat
/-- The row, under a short name, for the claim. -/
theorem stepShrinks_holds : Rows.StepShrinksSaid := stepShrinks.proved
end Go.Proofs.YthhjfcmkelmobaaGreat
