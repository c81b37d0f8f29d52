-- The row of the law StepUnlimited: the kit's form for a row (its print.py), over our own walk. Not trusted: Lean checks it.
import Derived.Test.YthhjfcmkelmobaaRows
import Derived.Test.YthhjfcmkelmobaaLwUnlim
import Derived.WalkKit
import Derived.ProofKit
import Derived.OpenShut
import Derived.ShutString
import Derived.ChangeOld
import Derived.Below
import Derived.SizedLaws
namespace Go.Proofs.Ythhjfcmkelmobaa.stepUnlimited
open Go.ChangeShapes Go.WideShapes Go.ChangeAt Go.RowKit
open Go.ChangeMaps (open_string shut_string)
set_option linter.unusedVariables false
theorem own : ownKnob Try.prog.godebug = none := by kernel_rfl
theorem laidOut : laidOutB Try.prog = true := by kernel_rfl
def IsRow (k : IntKind) (w : World) (a : Option Addr) (len cap : Nat) (zs : List Int) : Prop :=
  (a = none ∧ len = 0 ∧ cap = 0 ∧ zs = []) ∨
  ∃ x, a = some x ∧ len ≤ cap ∧ cap ≤ maxLen ∧ zs.length = cap ∧ (∀ i, i < zs.length → w.cell? (x.add i) = some (.int k (zs.getD i 0))) ∧ ∀ n ∈ zs, (Lit.int k n).wf = true
open Go.Proofs.Ythhjfcmkelmobaa.Aw in
theorem rows_ints {w : World} {x : Addr} : ∀ (l : List Int) (b : Nat), (∀ i v, l[i]? = some v → w.cell? (x.add (b + i)) = some (.int .i64 v)) → PL.rows w (good (fun _ => False) w) (some x) 1 b (l.map eI)
  | [], _, _ => by simp [PL.rows]
  | v :: l, b, h => by
    rw [List.map_cons, PL.rows]
    have h0 := h 0 v rfl
    refine ⟨⟨rfl, x, [.int .i64 v], rfl, ⟨?_, fun h => h⟩, by simp [eI, PL.ats, PL.at, leaf], fun j u hu => ?_⟩, rows_ints l (b + 1) fun i v' hv' => ?_⟩
    · rcases Nat.lt_or_ge x.block w.heap.size with hl | hl
      · exact hl
      · have hn : w.heap[(x.add b).block]? = none := by rw [Aw.add_block]; simp [hl]
        rw [Nat.add_zero] at h0
        simp [World.cell?, hn] at h0
    · match j, hu with
      | 0, hu => simp at hu; subst hu; simpa using h0
      | j + 1, hu => simp at hu
    · have := h (i + 1) v' (by simpa using hv')
      rwa [show b + 1 + i = b + (i + 1) by omega]
open Go.Proofs.Ythhjfcmkelmobaa.Aw in
theorem row_at {w : World} {a : Option Addr} {len cap : Nat} {z : List Int} (h : IsRow .i64 w a len cap z) : AVs (fun _ => False) (fun _ => .dead) w (.one (.p (.sl ((z.take len).map eI)))) (.slice a len cap) := by
  show PL.at w _ _ _
  rw [PL.at]
  rcases h with ⟨rfl, rfl, rfl, rfl⟩ | ⟨x, rfl, hl, hm, hz, hc, _⟩
  · exact ⟨none, 0, 0, rfl, fit0, trivial⟩
  · refine ⟨some x, cap, 1, by simp [hz, Nat.min_eq_left hl], ⟨by simp [hz, Nat.min_eq_left hl]; omega, hm⟩, ?_⟩
    refine rows_ints _ _ fun i v hv => ?_
    have hi : i < len := by
      have := Aw.getElem?_prop hv
      rw [List.length_take] at this
      omega
    rw [List.getElem?_take_of_lt hi] at hv
    have h1 := hc i (by omega)
    rw [List.getD_eq_getElem?_getD, hv] at h1
    rw [Nat.zero_add]
    exact h1
theorem walk (a0 : Option Addr) (len0 cap0 : Nat) (z0 : List Int) (a1 : Int) (w : World) (w0 : IsRow .i64 w a0 len0 cap0 z0) : Calls Try.prog 6 #[.slice a0 len0 cap0, .int .i64 a1] w fun e w' => e = .returned (.bool true) ∧ Below w.heap.size w w' := by
  refine ((Aw.F6 (z0.take len0) a1).2 (fun _ => False) w #[.slice a0 len0 cap0, .int .i64 a1] [] rfl (by simp) (by simp) (fun _ h => h.elim) (by simp) rfl ?_).mono ?_
  · intro j x y hx hy
    match j, hx, hy with
    | 0, hx, hy =>
      replace hx : some _ = some x := hx
      replace hy : some _ = some y := hy
      injection hx with hx
      injection hy with hy
      subst hx hy
      exact ⟨rfl, row_at w0⟩
    | 1, hx, hy =>
      replace hx : some _ = some x := hx
      replace hy : some _ = some y := hy
      injection hx with hx
      injection hy with hy
      subst hx hy
      exact ⟨rfl, rfl, rfl⟩
    | j + 2, hx, hy => simp at hx
  · rintro e w' ⟨r, H', y, rfl, rfl, _, hv, _, _, st⟩
    exact ⟨by rw [show y = .bool true from hv.1], ⟨st.os, st.tape, st.output, st.size, fun k hk => st.same k hk (by simp)⟩⟩
set_option maxRecDepth 100000 in
theorem lifted (os : Os) (started : os.Started) (H : Type) (enc : TypeId × Value → H) :
    ReturnsInHanded {} Try.checked os 6 .any (Rows.stepUnlimitedSpec.pre6 enc Try.prog Try.f6 Rows.stepUnlimitedRow.domain false) (Rows.stepUnlimitedSpec.post enc Try.prog Try.f6 false true false false) := by
  refine returnsInHanded_of_change_sized (C := Try.checked) own started (by kernel_rfl) Try.func6
    (ChangeSpec.witness6 (enc := enc) (C := Try.checked) false ⟨#[], #[.slice none 0 0, .int .i64 0], []⟩ 8 (by kernel_rfl) (by kernel_rfl) (by kernel_rfl) (by kernel_rfl)) ?_
  intro W base args ds gs before hval0 hW hcnd hsz0 _
  have hsz : (DataW.weightsEach Try.prog (Try.f6.params.toList ++ Rows.stepUnlimitedSpec.plain.varTypes Try.prog) (ds ++ gs)).all (· ≤ reachBytes) = true := hsz0
  have hval : ∀ (j : Nat) t v, Try.f6.params[j]? = some t → args[j]? = some v → Value.okWide Try.prog W .any base t v := hval0
  have hW' := hW
  obtain ⟨p, q, hA0, hV, rfl, hfz, hnd⟩ := hW
  have hA : DataW.TrodAll enc Try.prog W 0 (fun _ => true) true Try.f6.params.toList args.toList ds p := hA0
  rw [Try.params6] at hA hval hsz
  obtain ⟨v0, vs0, d0, ds0, p0, q0, hargs, rfl, rfl, h0, r0⟩ := trodAll_cons hA
  obtain ⟨v1, vs1, d1, ds1, p1, q1, rfl, rfl, rfl, h1, r1⟩ := trodAll_cons r0
  obtain ⟨rfl, rfl, rfl⟩ := trodAll_nil r1
  obtain rfl : args = #[v0, v1] := by cases args; simp_all
  obtain ⟨rfl, rfl⟩ := trodVars_none hV
  obtain ⟨a0, len0, cap0, rfl⟩ := okWide_slice Try.underlying22 (hval 0 22 v0 rfl rfl)
  have k0 := h0
  have lt0 : ∀ x ∈ p0, x.block < W.heap.size := by obtain ⟨m, hm⟩ := k0; exact DataW.trod_lt m _ _ _ hm
  obtain ⟨z0, w0⟩ : ∃ zs, IsRow .i64 W a0 len0 cap0 zs := by
    obtain ⟨fuel, hf⟩ := h0
    rcases open_ints Try.underlying22 Try.underlying3 (by kernel_rfl) hf with ⟨hcs, _⟩ | ⟨x, l, c, zs, hcs, _, hl, hm, hz, _, hcell, hwz⟩
    · simp [Value.cells] at hcs
      obtain ⟨rfl, rfl, rfl⟩ := hcs
      exact ⟨[], .inl ⟨rfl, rfl, rfl, rfl⟩⟩
    · simp [Value.cells] at hcs
      obtain ⟨rfl, rfl, rfl⟩ := hcs
      exact ⟨zs, .inr ⟨_, rfl, hl, hm, by simpa using hz, hcell, hwz⟩⟩
  obtain ⟨a1, rfl, rfl, rfl, w1⟩ := open_int Try.underlying3 (hval 1 3 v1 rfl rfl) h1
  clear hA0 hval0 hsz0 hsz
  refine (walk a0 len0 cap0 z0 a1 W w0).mono fun e W' ⟨he, bel⟩ => ?_
  subst he
  exact ⟨_, rfl, _, _, _, [], _, [], hW', trodAll_mk1 (shut_bool Try.underlying4 _), (trodAll_cons_mk (Below.trod laidOut (by kernel_rfl) (of_decide_eq_true (by kernel_rfl)) k0 bel lt0) (trodAll_cons_mk (shut_int Try.underlying3 w1) trodAll_mk0)), rfl, bel.frame _, fun h => by cases h⟩
theorem over : Rows.stepUnlimitedRow.holds Try.pinned (OpenSpec.ofChange Rows.stepUnlimitedSpec) :=
  OpenClaim.holds_of_wide 6 Try.f6 rfl rfl rfl rfl rfl rfl rfl ⟨rfl, rfl, rfl, rfl, rfl⟩ rfl rfl rfl rfl rfl (by kernel_rfl) Try.func6 (by kernel_rfl)
    (of_decide_eq_true (by kernel_rfl)) (by unfold Func.isWrapper; first | (rw [if_pos (by decide +kernel)]; kernel_rfl) | (rw [if_neg (by decide +kernel)]; exact ⟨rfl, rfl⟩))
    (fun os started H enc _ => lifted os started H enc)
theorem proved : Rows.StepUnlimitedSaid := over
#print axioms proved
end Go.Proofs.Ythhjfcmkelmobaa.stepUnlimited
namespace Go.Proofs.Ythhjfcmkelmobaa
/-- The row, under a short name, for the claim. -/
theorem stepUnlimited_holds : Rows.StepUnlimitedSaid := stepUnlimited.proved
end Go.Proofs.Ythhjfcmkelmobaa
