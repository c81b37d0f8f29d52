
/- Arrays built.
   Conditions: none; generic in the program. -/
import Derived.Test.YtbdgmondalkhlaaDoorAwClo
namespace Go.Proofs.YtbdgmondalkhlaaDoor.Aw
open Go
variable {P : Program} {C : Ctx P} {T : TT} {ops : Array Oper} {i : Nat} {l : List Nat} {K : AS → Prop}
def buildAV (T : TT) (ops : Array Oper) (i n : Nat) (s : List (Nat × AV)) (h : List (Nat × HB)) : Option (Nat × List PL) := match ops[i]? with
  | some o => match gd ops ⟨n, s, h⟩ o, o.op, o.dst with
    | some true, .build t parts, some d => match T.lookup t with
      | some ti => match ti.kd, partsP ⟨n, s, h⟩ parts.toList with
        | .arr _ _ sz _, some l => match fillP (fun k => some (k * sz, sz)) ti.zero l with
          | some ps => if d < n then some (d, ps) else none
          | none => none
        | _, _ => none
      | none => none
    | _, _, _ => none
  | none => none
theorem Yd.buildA (hT : TT.ok P T) {N : List Nat} {n d : Nat} {s : List (Nat × AV)} {h : List (Nat × HB)} {ps : List PL} (hs : buildAV T ops i n s h = some (d, ps)) : Yd P C ops N i ⟨n, s, h⟩ d (.agg ps) := by
  unfold buildAV at hs
  split at hs
  · rename_i o ho
    split at hs
    · rename_i t parts d' hg hop hd
      split at hs
      · rename_i ti hti
        split at hs
        · rename_i k e sz ag lp hk hlp
          split at hs
          · rename_i ps' hps
            split at hs
            · rename_i hn
              injection hs with hs
              injection hs with hs1 hs2
              subst hs1 hs2
              refine Yd.of ho hg hd hn fun a w β r => ?_
              obtain ⟨xi, dd, z, i1, i2, i3, i4, i5, i6, i7, i8, i9⟩ := TI.info (hT _ _ hti)
              obtain ⟨g1, g2⟩ := partsP_ok r hlp
              have hz : PL.ats w (good (Mt C h β) w) ti.zero z.cells.toList := by rw [← i8]; exact zero_ats i9
              obtain ⟨u1, u2⟩ := kd_arr (hT _ _ hti) hk
              obtain ⟨te, _, hte, _, he⟩ := sizeT_ok u2
              obtain ⟨cells', c1, c2⟩ := fill_ok (cells := z.cells) (vs := parts.toList.map fun x => (x.1, a.eval x.2)) hps hz g1 g2
              have hrun : ∀ w', (execOp a.eval o).run P w' = .ok (.value (.agg cells')) w' := fun w' => by
                simp only [execOp, hop, Instr.build, Sem.run_bind, run_zero' i1 i3, Result.andThen_ok, run_underlying' u1, run_size' hte, Sem.run_pure]
                have hparts : (parts.map fun x => (x.1, a.eval x.2)).toList = parts.toList.map fun x => (x.1, a.eval x.2) := by simp
                rw [hparts, he, c1]
                rfl
              exact ⟨_, fun w' _ => hrun w', cells'.toList, by simp, c2⟩
            · cases hs
          · cases hs
        · cases hs
      · cases hs
    · cases hs
  · cases hs
theorem AwOps.buildA (hT : TT.ok P T) {n d : Nat} {s : List (Nat × AV)} {h : List (Nat × HB)} {ps : List PL} (hs : buildAV T ops i n s h = some (d, ps)) (hK : AwOps P C ops l ⟨n, (d, .agg ps) :: s, h⟩ K) : AwOps P C ops (i :: l) ⟨n, s, h⟩ K := AwOps.yd (Yd.buildA hT hs) hK
end Go.Proofs.YtbdgmondalkhlaaDoor.Aw
