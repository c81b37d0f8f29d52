/- The row of the law StepLeavesAnything, over our own walk: every reading of the arguments tells pure data, and the walk answers true.
   Conditions: none. -/
import Derived.Test.YthhjfcmkelmobaaRows
import Derived.Test.YthhjfcmkelmobaaAwOpen
import Derived.Test.YthhjfcmkelmobaaLwAny
import Derived.WalkKit
import Derived.ProofKit
import Derived.OpenShut
import Derived.ShutString
import Derived.ChangeOld
import Derived.Below
import Derived.SizedLaws
namespace Go.Proofs.Ythhjfcmkelmobaa.stepLeavesAnything
open Go.ChangeShapes Go.WideShapes Go.ChangeAt Go.RowKit
open Go.Proofs.Ythhjfcmkelmobaa.Aw
set_option linter.unusedVariables false
theorem own : ownKnob Try.prog.godebug = none := by kernel_rfl
theorem laidOut : laidOutB Try.prog = true := by kernel_rfl
theorem op9 {w : World} : Opens Try.prog w 9 (fun s : ByteArray => [.v (.string s)]) := opens_string Try.underlying9
theorem op3 {w : World} : Opens Try.prog w 3 (fun n : Int => [.v (.int .i64 n)]) := opens_int Try.underlying3
theorem op89 {w : World} : Opens Try.prog w 89 eAttr := opens_map (fun x => ⟨x.1, x.2.1, x.2.2.1⟩) (opens_struct Try.underlying89 (c := 3) (by kernel_rfl) (opensF_cons (c := 1) rfl (by kernel_rfl) op9 (opensF_cons (c := 1) rfl (by kernel_rfl) op3 (opensF_cons (c := 1) rfl (by kernel_rfl) op9 (opensF_nil))))) (fun _ => rfl)
theorem op87 {w : World} : Opens Try.prog w 87 (fun l : List (Attr) => [.sl (l.map eAttr)]) := opens_slice Try.underlying87 (by kernel_rfl) (opens_map (g := eAttr) id op89 (fun _ => rfl))
theorem op25 {w : World} : Opens Try.prog w 25 (fun l : List (List (Attr)) => [.sl (l.map eRdn)]) := opens_slice Try.underlying25 (by kernel_rfl) (opens_map (g := eRdn) id op87 (fun _ => rfl))
theorem op27 {w : World} : Opens Try.prog w 27 eName := opens_map (fun x => x.1) (opens_struct Try.underlying27 (c := 1) (by kernel_rfl) (opensF_cons (c := 1) rfl (by kernel_rfl) op25 (opensF_nil))) (fun _ => rfl)
theorem op29 {w : World} : Opens Try.prog w 29 eKey := opens_map (fun x => ⟨x.1, x.2.1, x.2.2.1⟩) (opens_struct Try.underlying29 (c := 3) (by kernel_rfl) (opensF_cons (c := 1) rfl (by kernel_rfl) op3 (opensF_cons (c := 1) rfl (by kernel_rfl) op9 (opensF_cons (c := 1) rfl (by kernel_rfl) op9 (opensF_nil))))) (fun _ => rfl)
theorem op4 {w : World} : Opens Try.prog w 4 (fun b : Bool => [.v (.bool b)]) := opens_bool Try.underlying4
theorem op80 {w : World} : Opens Try.prog w 80 eGn := opens_map (fun x => ⟨x.1, x.2.1, x.2.2.1⟩) (opens_struct Try.underlying80 (c := 3) (by kernel_rfl) (opensF_cons (c := 1) rfl (by kernel_rfl) op3 (opensF_cons (c := 1) rfl (by kernel_rfl) op9 (opensF_cons (c := 1) rfl (by kernel_rfl) op27 (opensF_nil))))) (fun _ => rfl)
theorem op35 {w : World} : Opens Try.prog w 35 (fun l : List (Gn) => [.sl (l.map eGn)]) := opens_slice Try.underlying35 (by kernel_rfl) (opens_map (g := eGn) id op80 (fun _ => rfl))
theorem op52 {w : World} : Opens Try.prog w 52 eSub := opens_map (fun x => ⟨x.1, x.2.1⟩) (opens_struct Try.underlying52 (c := 2) (by kernel_rfl) (opensF_cons (c := 1) rfl (by kernel_rfl) op35 (opensF_cons (c := 1) rfl (by kernel_rfl) op35 (opensF_nil)))) (fun _ => rfl)
theorem op41 {w : World} : Opens Try.prog w 41 (fun l : List (Sub) => [.sl (l.map eSub)]) := opens_slice Try.underlying41 (by kernel_rfl) (opens_map (g := eSub) id op52 (fun _ => rfl))
theorem op43 {w : World} : Opens Try.prog w 43 eNSt := opens_map (fun x => x.1) (opens_struct Try.underlying43 (c := 1) (by kernel_rfl) (opensF_cons (c := 1) rfl (by kernel_rfl) op41 (opensF_nil))) (fun _ => rfl)
theorem op45 {w : World} : Opens Try.prog w 45 ePr := opens_map (fun x => ⟨x.1, x.2.1, x.2.2.1, x.2.2.2.1, x.2.2.2.2.1, x.2.2.2.2.2.1, x.2.2.2.2.2.2.1, x.2.2.2.2.2.2.2.1⟩) (opens_struct Try.underlying45 (c := 10) (by kernel_rfl) (opensF_cons (c := 1) rfl (by kernel_rfl) op27 (opensF_cons (c := 3) rfl (by kernel_rfl) op29 (opensF_cons (c := 1) rfl (by kernel_rfl) op4 (opensF_cons (c := 1) rfl (by kernel_rfl) op3 (opensF_cons (c := 1) rfl (by kernel_rfl) op3 (opensF_cons (c := 1) rfl (by kernel_rfl) op3 (opensF_cons (c := 1) rfl (by kernel_rfl) op3 (opensF_cons (c := 1) rfl (by kernel_rfl) op43 (opensF_nil)))))))))) (fun _ => rfl)
theorem op34 {w : World} : Opens Try.prog w 34 (fun l : List (ByteArray) => [.sl (l.map eStr)]) := opens_slice Try.underlying34 (by kernel_rfl) (opens_map (g := eStr) id op9 (fun _ => rfl))
theorem op97 {w : World} : Opens Try.prog w 97 eMapp := opens_map (fun x => ⟨x.1, x.2.1⟩) (opens_struct Try.underlying97 (c := 2) (by kernel_rfl) (opensF_cons (c := 1) rfl (by kernel_rfl) op9 (opensF_cons (c := 1) rfl (by kernel_rfl) op9 (opensF_nil)))) (fun _ => rfl)
theorem op50 {w : World} : Opens Try.prog w 50 (fun l : List (Mapp) => [.sl (l.map eMapp)]) := opens_slice Try.underlying50 (by kernel_rfl) (opens_map (g := eMapp) id op97 (fun _ => rfl))
theorem op131 {w : World} : Opens Try.prog w 131 ePoint := opens_map (fun x => ⟨x.1, x.2.1, x.2.2.1, x.2.2.2.1⟩) (opens_struct Try.underlying131 (c := 4) (by kernel_rfl) (opensF_cons (c := 1) rfl (by kernel_rfl) op35 (opensF_cons (c := 1) rfl (by kernel_rfl) op3 (opensF_cons (c := 1) rfl (by kernel_rfl) op4 (opensF_cons (c := 1) rfl (by kernel_rfl) op27 (opensF_nil)))))) (fun _ => rfl)
theorem op53 {w : World} : Opens Try.prog w 53 (fun l : List (Point) => [.sl (l.map ePoint)]) := opens_slice Try.underlying53 (by kernel_rfl) (opens_map (g := ePoint) id op131 (fun _ => rfl))
theorem op112 {w : World} : Opens Try.prog w 112 eExt := opens_map (fun x => ⟨x.1, x.2.1, x.2.2.1⟩) (opens_struct Try.underlying112 (c := 3) (by kernel_rfl) (opensF_cons (c := 1) rfl (by kernel_rfl) op9 (opensF_cons (c := 1) rfl (by kernel_rfl) op4 (opensF_cons (c := 1) rfl (by kernel_rfl) op9 (opensF_nil))))) (fun _ => rfl)
theorem op54 {w : World} : Opens Try.prog w 54 (fun l : List (Ext) => [.sl (l.map eExt)]) := opens_slice Try.underlying54 (by kernel_rfl) (opens_map (g := eExt) id op112 (fun _ => rfl))
theorem op56 {w : World} : Opens Try.prog w 56 eInfo := opens_map (fun x => ⟨x.1, x.2.1, x.2.2.1, x.2.2.2.1, x.2.2.2.2.1, x.2.2.2.2.2.1, x.2.2.2.2.2.2.1, x.2.2.2.2.2.2.2.1, x.2.2.2.2.2.2.2.2.1, x.2.2.2.2.2.2.2.2.2.1, x.2.2.2.2.2.2.2.2.2.2.1, x.2.2.2.2.2.2.2.2.2.2.2.1, x.2.2.2.2.2.2.2.2.2.2.2.2.1, x.2.2.2.2.2.2.2.2.2.2.2.2.2.1, x.2.2.2.2.2.2.2.2.2.2.2.2.2.2.1, x.2.2.2.2.2.2.2.2.2.2.2.2.2.2.2.1, x.2.2.2.2.2.2.2.2.2.2.2.2.2.2.2.2.1, x.2.2.2.2.2.2.2.2.2.2.2.2.2.2.2.2.2.1⟩) (opens_struct Try.underlying56 (c := 19) (by kernel_rfl) (opensF_cons (c := 1) rfl (by kernel_rfl) op4 (opensF_cons (c := 1) rfl (by kernel_rfl) op4 (opensF_cons (c := 1) rfl (by kernel_rfl) op3 (opensF_cons (c := 1) rfl (by kernel_rfl) op3 (opensF_cons (c := 1) rfl (by kernel_rfl) op34 (opensF_cons (c := 1) rfl (by kernel_rfl) op34 (opensF_cons (c := 1) rfl (by kernel_rfl) op50 (opensF_cons (c := 1) rfl (by kernel_rfl) op3 (opensF_cons (c := 1) rfl (by kernel_rfl) op3 (opensF_cons (c := 1) rfl (by kernel_rfl) op3 (opensF_cons (c := 1) rfl (by kernel_rfl) op35 (opensF_cons (c := 1) rfl (by kernel_rfl) op4 (opensF_cons (c := 2) rfl (by kernel_rfl) op52 (opensF_cons (c := 1) rfl (by kernel_rfl) op9 (opensF_cons (c := 1) rfl (by kernel_rfl) op9 (opensF_cons (c := 1) rfl (by kernel_rfl) op53 (opensF_cons (c := 1) rfl (by kernel_rfl) op53 (opensF_cons (c := 1) rfl (by kernel_rfl) op54 (opensF_nil)))))))))))))))))))) (fun _ => rfl)
set_option maxRecDepth 100000 in
theorem lifted (os : Os) (started : os.Started) (H : Type) (enc : TypeId × Value → H) :
    ReturnsInHanded {} Try.checked os 7 .any (Rows.stepLeavesAnythingSpec.pre6 enc Try.prog Try.f7 Rows.stepLeavesAnythingRow.domain false) (Rows.stepLeavesAnythingSpec.post enc Try.prog Try.f7 false true false false) := by
  refine returnsInHanded_of_change_sized (C := Try.checked) own started (by kernel_rfl) Try.func7
    (ChangeSpec.witness6 (enc := enc) (C := Try.checked) false ⟨#[], #[.agg #[.slice none 0 0, .int .i64 0, .string ⟨#[]⟩, .string ⟨#[]⟩, .bool false, .int .i64 0, .int .i64 0, .int .i64 0, .int .i64 0, .slice none 0 0], .agg #[.bool false, .bool false, .int .i64 0, .int .i64 0, .slice none 0 0, .slice none 0 0, .slice none 0 0, .int .i64 0, .int .i64 0, .int .i64 0, .slice none 0 0, .bool false, .slice none 0 0, .slice none 0 0, .string ⟨#[]⟩, .string ⟨#[]⟩, .slice none 0 0, .slice none 0 0, .slice none 0 0], .bool false], []⟩ 8 (by kernel_rfl) (by kernel_rfl) (by kernel_rfl) (by kernel_rfl)) ?_
  intro W base args ds gs before hval0 hW hcnd hsz0 _
  have hsz : (DataW.weightsEach Try.prog (Try.f7.params.toList ++ Rows.stepLeavesAnythingSpec.plain.varTypes Try.prog) (ds ++ gs)).all (· ≤ reachBytes) = true := hsz0
  have hval : ∀ (j : Nat) t v, Try.f7.params[j]? = some t → args[j]? = some v → Value.okWide Try.prog W .any base t v := hval0
  have hW' := hW
  obtain ⟨p, q, hA0, hV, rfl, hfz, hnd⟩ := hW
  have hA : DataW.TrodAll enc Try.prog W 0 (fun _ => true) true Try.f7.params.toList args.toList ds p := hA0
  rw [Try.params7] at hA hval hsz
  obtain ⟨v0, vs0, d0, ds0, p0, q0, hargs, rfl, rfl, h0, r0⟩ := trodAll_cons hA
  obtain ⟨v1, vs1, d1, ds1, p1, q1, rfl, rfl, rfl, h1, r1⟩ := trodAll_cons r0
  obtain ⟨v2, vs2, d2, ds2, p2, q2, rfl, rfl, rfl, h2, r2⟩ := trodAll_cons r1
  obtain ⟨rfl, rfl, rfl⟩ := trodAll_nil r2
  obtain rfl : args = #[v0, v1, v2] := by cases args; simp_all
  obtain ⟨rfl, rfl⟩ := trodVars_none hV
  have lt0 : ∀ x ∈ p0, x.block < W.heap.size := by obtain ⟨m, hm⟩ := h0; exact DataW.trod_lt m _ _ _ hm
  obtain ⟨c0, rfl, _⟩ := okWide_struct Try.underlying45 (hval 0 45 v0 rfl rfl)
  obtain ⟨x0, e0⟩ := opens_agg (op45 (w := W)) h0
  have g0 := h0
  have lt1 : ∀ x ∈ p1, x.block < W.heap.size := by obtain ⟨m, hm⟩ := h1; exact DataW.trod_lt m _ _ _ hm
  obtain ⟨c1, rfl, _⟩ := okWide_struct Try.underlying56 (hval 1 56 v1 rfl rfl)
  obtain ⟨x1, e1⟩ := opens_agg (op56 (w := W)) h1
  have g1 := h1
  obtain ⟨a2, rfl, rfl, rfl⟩ := open_bool Try.underlying4 (hval 2 4 v2 rfl rfl) h2
  clear hA0 hval0 hsz0 hsz
  have walk : Calls Try.prog 7 #[.agg c0, .agg c1, .bool a2] W fun e w' => e = .returned (.bool true) ∧ Below W.heap.size W w' := by
    refine ((Aw.F7 x0 x1 a2).2 (fun _ => False) W #[.agg c0, .agg c1, .bool a2] [] rfl (by simp) (by simp) (fun _ h => h.elim) (by simp) rfl ?_).mono ?_
    · intro j x y hx hy
      match j, hx, hy with
      | 0, hx, hy =>
        replace hx : some _ = some x := hx
        replace hy : some _ = some y := hy
        injection hx with hx
        injection hy with hy
        subst hx hy
        exact ⟨rfl, e0⟩
      | 1, hx, hy =>
        replace hx : some _ = some x := hx
        replace hy : some _ = some y := hy
        injection hx with hx
        injection hy with hy
        subst hx hy
        exact ⟨rfl, e1⟩
      | 2, hx, hy =>
        replace hx : some _ = some x := hx
        replace hy : some _ = some y := hy
        injection hx with hx
        injection hy with hy
        subst hx hy
        exact ⟨rfl, rfl, rfl⟩
      | j + 3, hx, hy => simp at hx
    · rintro e w' ⟨r, H', y, rfl, rfl, _, hv, _, _, st⟩
      exact ⟨by rw [show y = .bool true from hv.1], ⟨st.os, st.tape, st.output, st.size, fun k hk => st.same k hk (by simp)⟩⟩
  refine walk.mono fun e W' ⟨he, bel⟩ => ?_
  subst he
  exact ⟨_, rfl, _, _, _, [], _, [], hW', trodAll_mk1 (shut_bool Try.underlying4 _), (trodAll_cons_mk (Below.trod laidOut (by kernel_rfl) (of_decide_eq_true (by kernel_rfl)) g0 bel lt0) (trodAll_cons_mk (Below.trod laidOut (by kernel_rfl) (of_decide_eq_true (by kernel_rfl)) g1 bel lt1) (trodAll_cons_mk (shut_bool Try.underlying4 _) trodAll_mk0))), rfl, bel.frame _, fun h => by cases h⟩
theorem over : Rows.stepLeavesAnythingRow.holds Try.pinned (OpenSpec.ofChange Rows.stepLeavesAnythingSpec) :=
  OpenClaim.holds_of_wide 7 Try.f7 rfl rfl rfl rfl rfl rfl rfl ⟨rfl, rfl, rfl, rfl, rfl⟩ rfl rfl rfl rfl rfl (by kernel_rfl) Try.func7 (by kernel_rfl)
    (of_decide_eq_true (by kernel_rfl)) (by unfold Func.isWrapper; first | (rw [if_pos (by decide +kernel)]; kernel_rfl) | (rw [if_neg (by decide +kernel)]; exact ⟨rfl, rfl⟩))
    (fun os started H enc _ => lifted os started H enc)
theorem proved : Rows.StepLeavesAnythingSaid := over
#print axioms proved
end Go.Proofs.Ythhjfcmkelmobaa.stepLeavesAnything
namespace Go.Proofs.Ythhjfcmkelmobaa
/-- The row, under a short name, for the claim. -/
theorem stepLeavesAnything_holds : Rows.StepLeavesAnythingSaid := stepLeavesAnything.proved
end Go.Proofs.Ythhjfcmkelmobaa
