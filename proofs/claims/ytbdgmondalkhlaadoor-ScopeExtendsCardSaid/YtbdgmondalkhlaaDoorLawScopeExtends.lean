
/- The row of the law ScopeExtends, over our own walk: every reading of the arguments tells pure data, and the walk answers true.
   Conditions: none. -/
import Derived.Test.YtbdgmondalkhlaaDoorCards
import Derived.Test.YtbdgmondalkhlaaDoorTie
import Derived.Test.YtbdgmondalkhlaaDoorAwLaid
import Derived.Test.YtbdgmondalkhlaaDoorAwOpen
import Derived.Test.YtbdgmondalkhlaaDoorWkScope5
import Derived.WalkKit
import Derived.ProofKit
import Derived.OpenShut
import Derived.ShutString
import Derived.ChangeOld
import Derived.Below
import Derived.SizedLaws
import Derived.LaidMore
import Derived.Lay
import Derived.SevenTiedAt
namespace Go.Proofs.YtbdgmondalkhlaaDoor.scopeExtends
open Go.ChangeShapes Go.WideShapes Go.ChangeAt Go.RowKit
open Go.Proofs.YtbdgmondalkhlaaDoor.Aw
set_option linter.unusedVariables false
theorem own : ownKnob Tryd.prog.godebug = none := by kernel_rfl
theorem laidOut : laidOutB Tryd.prog = true := by kernel_rfl
theorem op3 {w : World} : Opens Tryd.prog w 3 (fun n : Int => [.v (.int .i64 n)]) := opens_int Tryd.underlying3
theorem op22 {w : World} : Opens Tryd.prog w 22 (fun l : List (Int) => [.sl (l.map eI)]) := opens_slice Tryd.underlying22 (by kernel_rfl) (opens_map (g := eI) id op3 (fun _ => rfl))
theorem op4 {w : World} : Opens Tryd.prog w 4 (fun b : Bool => [.v (.bool b)]) := opens_bool Tryd.underlying4
set_option maxRecDepth 100000 in
theorem lifted (os : Os) (started : os.Started) (H : Type) (enc : TypeId × Value → H) :
    ReturnsInHanded {} Tryd.checked os 7 .any (fun w args => (Rows.scopeExtendsSpec.pre enc Tryd.prog Tryd.f7 Rows.scopeExtendsRow.domain false w args ∧ laidMetH Tryd.prog Rows.scopeExtendsRow.laid w) ∧ sizedMet enc Tryd.prog Tryd.f7 (OpenSpec.ofChange Rows.scopeExtendsSpec) false w args)
      (Rows.scopeExtendsSpec.post enc Tryd.prog Tryd.f7 false true false false) := by
  refine wrap_laid (C := Tryd.checked) (X := fun w _ => laidMetH Tryd.prog Rows.scopeExtendsRow.laid w) (fun _ _ _ hh h => h.of_heap hh) own started (by kernel_rfl) Tryd.func7
    (ChangeSpec.witness_shaped (enc := enc) (C := Tryd.checked) (os := os) (X := fun w _ => laidMetH Tryd.prog Rows.scopeExtendsRow.laid w) false (World.laidAll Tryd.prog os Rows.scopeExtendsRow.laid) #[.slice none 0 0, .bool false] 8 (World.laidAll_os _ _ _)
      (World.shaped_of_ZipB (by kernel_rfl) (by kernel_rfl)) (by kernel_rfl) (by kernel_rfl) (by kernel_rfl)
      (by rw [MakeChecks.laidMetH_plain _ _ _ (by kernel_rfl)]; exact laidMet_laidAll _ (by kernel_rfl) (by kernel_rfl))) ?_
  intro W base args ds gs before hval0 hW hsz0 hsh
  have hsz : (DataW.weightsEach Tryd.prog (Tryd.f7.params.toList ++ Rows.scopeExtendsSpec.plain.varTypes Tryd.prog) (ds ++ gs)).all (· ≤ reachBytes) = true := hsz0
  have hval : ∀ (j : Nat) t v, Tryd.f7.params[j]? = some t → args[j]? = some v → Value.okWide Tryd.prog W .any base t v := hval0
  have hW' := hW
  obtain ⟨p, q, hA0, hV, rfl, hfz, hnd⟩ := hW
  have hA : DataW.TrodAll enc Tryd.prog W 0 (fun _ => true) true Tryd.f7.params.toList args.toList ds p := hA0
  rw [Tryd.params7] at hA hval hsz
  obtain ⟨v0, vs0, d0, ds0, p0, q0, hargs, rfl, rfl, h0, r0⟩ := trodAll_cons hA
  obtain ⟨v1, vs1, d1, ds1, p1, q1, rfl, rfl, rfl, h1, r1⟩ := trodAll_cons r0
  obtain ⟨rfl, rfl, rfl⟩ := trodAll_nil r1
  obtain rfl : args = #[v0, v1] := by cases args; simp_all
  obtain ⟨rfl, rfl⟩ := trodVars_none hV
  have lt0 : ∀ x ∈ p0, x.block < W.heap.size := by obtain ⟨m, hm⟩ := h0; exact DataW.trod_lt m _ _ _ hm
  obtain ⟨a0, l0, k0, rfl⟩ := okWide_slice Tryd.underlying22 (hval 0 22 v0 rfl rfl)
  obtain ⟨x0, e0⟩ := opens_one (op22 (w := W)) rfl h0
  have g0 := h0
  obtain ⟨a1, rfl, rfl, rfl⟩ := open_bool Tryd.underlying4 (hval 1 4 v1 rfl rfl) h1
  clear hA0 hval0 hsz0 hsz
  have walk : Calls Tryd.prog 7 #[.slice a0 l0 k0, .bool a1] W fun e w' => e = .returned (.bool true) ∧ Below W.heap.size W w' := by
    refine ((Aw.F156 x0 a1).2 (fun _ => False) W #[.slice a0 l0 k0, .bool a1] [] rfl (by simp) (by simp) (fun _ h => h.elim) (fun g hg => by cases hg; exact ⟨fun h => h.elim, Go.Proofs.cell_of_shapedOpen_int (zero := #[.int .i64 0]) (t := 3) hsh (of_decide_eq_true (by kernel_rfl)) (by kernel_rfl) rfl (by kernel_rfl) (by kernel_rfl) Tryd.underlying3⟩) (by simp) rfl ?_).mono ?_
    · intro j x y hx hy
      match j, hx, hy with
      | 0, hx, hy =>
        replace hx : some _ = some x := hx
        replace hy : some _ = some y := hy
        injection hx with hx
        injection hy with hy
        subst hx hy
        exact ⟨rfl, e0⟩
      | 1, hx, hy =>
        replace hx : some _ = some x := hx
        replace hy : some _ = some y := hy
        injection hx with hx
        injection hy with hy
        subst hx hy
        exact ⟨rfl, rfl, rfl⟩
      | j + 2, hx, hy => simp at hx
    · rintro e w' ⟨r, H', y, rfl, rfl, _, hv, _, _, st⟩
      exact ⟨by rw [show y = .bool true from hv.1], ⟨st.os, st.tape, st.output, st.size, fun k hk => st.same k hk (by simp)⟩⟩
  refine walk.mono fun e W' ⟨he, bel⟩ => ?_
  subst he
  exact ⟨_, rfl, _, _, _, [], _, [], hW', trodAll_mk1 (shut_bool Tryd.underlying4 _), (trodAll_cons_mk (Below.trod laidOut (by kernel_rfl) (of_decide_eq_true (by kernel_rfl)) g0 bel lt0) (trodAll_cons_mk (shut_bool Tryd.underlying4 _) trodAll_mk0)), rfl, bel.frame _, fun h => by cases h⟩
theorem over : Rows.scopeExtendsRow.holds Tryd.pinned (OpenSpec.ofChange Rows.scopeExtendsSpec) :=
  OpenClaim.holds_of_wide 7 Tryd.f7 rfl rfl rfl rfl rfl rfl rfl ⟨rfl, rfl, rfl, rfl, rfl⟩ rfl rfl rfl rfl rfl (by kernel_rfl) Tryd.func7 (by kernel_rfl)
    (of_decide_eq_true (by kernel_rfl)) (by unfold Func.isWrapper; first | (rw [if_pos (by decide +kernel)]; kernel_rfl) | (rw [if_neg (by decide +kernel)]; exact ⟨rfl, rfl⟩))
    (fun os started H enc _ => lifted os started H enc)
def fnum : Nat := 7
theorem proved : Rows.ScopeExtendsCardSaid :=
  Claim7.holds_tied_plain_at .later [] [.data, .pinned] true (true, "87e32c66cb7275cbe66de5f4483cde3ffed96674849f9af50df0e95a88e0e3dd") false over (fun _ h => by cases h) (by kernel_rfl) (fun _ h => by cases h) scopeExtends_row_tie rfl ⟨rfl, rfl⟩ (by kernel_rfl) rfl
    (fun f fn hf hfn => by
      obtain rfl : f = fnum := Option.some.inj ((show Tryd.prog.funcNamed "certpath/certpathlaw27.ScopeExtends" = some fnum by kernel_rfl).symm.trans hf) |>.symm
      obtain rfl : fn = Tryd.f7 := (Option.some.inj (Tryd.func7.symm.trans hfn)).symm
      exact ⟨by kernel_rfl, fun j t ht => by
        have hall : (Tryd.f7.params.toList.all fun u => !Tryd.prog.wantsStandIn u) = true := by kernel_rfl
        have hm : t ∈ Tryd.f7.params.toList := by simpa using Array.mem_of_getElem? ht
        exact (show Tryd.prog.wantsStandIn t = false by simpa using List.all_eq_true.1 hall t hm)⟩)
    (by kernel_rfl)
#print axioms proved
end Go.Proofs.YtbdgmondalkhlaaDoor.scopeExtends
namespace Go.Proofs.YtbdgmondalkhlaaDoor
/-- The card, under a short name, for the claim. -/
theorem scopeExtends_holds : Rows.ScopeExtendsCardSaid := scopeExtends.proved
end Go.Proofs.YtbdgmondalkhlaaDoor
