
/- Structs of one slice of one's own, built and stored; rows in variables.
   Conditions: none; generic in the program. -/
import Derived.Test.YtbdgmondalkhlaaDoorAwGen
namespace Go.Proofs.YtbdgmondalkhlaaDoor.Aw
open Go

variable {P : Program} {C : Ctx P} {T : TT} {σ τ : AS} {a : Act} {w w1 : World} {β β1 : Map} {ops : Array Oper} {i : Nat} {l : List Nat} {K : AS → Prop} {F : Nat → Prop}

def buildM (T : TT) (ops : Array Oper) (i n : Nat) (s : List (Nat × AV)) (h : List (Nat × HB)) : Option (Nat × Nat × Nat) := match ops[i]? with
  | some o => match gd ops ⟨n, s, h⟩ o, o.op, o.dst with
    | some true, .build t parts, some d => match T.lookup t, parts.toList with
      | some ti, [(k, x)] => match places ti, ev ⟨n, s, h⟩ x with
        | some pl, some (.one (.own b m)) => match pl k, h.lookup b with
          | some (0, 1), some (.row _ _ _ _) => if d < n ∧ ti.zero.length = 1 then some (d, b, m) else none
          | _, _ => none
        | _, _ => none
      | _, _ => none
    | _, _, _ => none
  | none => none
theorem row_leaf {n b m ty sz : Nat} {pl : Bool} {es : List (List PL)} {s : List (Nat × AV)} {h : List (Nat × HB)} (r : Rel C ⟨n, s, h⟩ a w β) (hb : h.lookup b = some (.row ty sz pl es)) {y : Value} (hv : ALs (Mt C h β) β w (.own b m) y) : leaf y = true := by
  have := r.heap b _ hb
  simp only [ALs, AL.rep] at hv
  cases hl : β b with
  | dead => rw [hl] at this; exact this.elim
  | nil => rw [hl] at hv; rw [hv.1]; rfl
  | here g c => rw [hl] at hv; rw [hv.1]; rfl
theorem Yd.buildM (hT : TT.ok P T) {N : List Nat} {n d b m : Nat} {s : List (Nat × AV)} {h : List (Nat × HB)} (hs : Aw.buildM T ops i n s h = some (d, b, m)) : Yd P C ops N i ⟨n, s, h⟩ d (.mix [.sl []] [(0, .own b m)]) := by
  unfold Aw.buildM at hs
  split at hs
  · rename_i o ho
    split at hs
    · rename_i t parts d' hg hop hd
      split at hs
      · rename_i ti k x hti hparts
        split at hs
        · rename_i pl b' m' hpl hx
          split at hs
          · rename_i ty sz plb es hk hb
            split at hs
            · rename_i hc
              injection hs with hs
              injection hs with hs1 hs
              injection hs with hs2 hs3
              subst hs1 hs2 hs3
              refine Yd.of ho hg hd hc.1 fun a w β r => ?_
              obtain ⟨xi, dd, z, i1, i2, i3, i4, i5, i6, i7, i8, i9⟩ := TI.info (hT _ _ hti)
              have hv := r.ev hx
              have hlf := row_leaf r hb hv
              have hz : PL.ats w (good (Mt C h β) w) ti.zero z.cells.toList := by rw [← i8]; exact zero_ats i9
              unfold places at hpl
              split at hpl
              · rename_i fl hkd
                injection hpl with hpl
                obtain ⟨fs, rfl⟩ : ∃ fs, dd = .struct fs := by
                  rw [hkd] at i6
                  cases dd <;> simp only [tkOf] at i6 <;> first | exact ⟨_, rfl⟩ | (split at i6 <;> cases i6; done) | cases i6
                rw [hkd] at i6
                simp only [tkOf] at i6
                split at i6
                · rename_i l0 hl0
                  injection i6 with i6
                  subst i6
                  have hcy : (a.eval x).cells = #[a.eval x] := by
                    generalize a.eval x = y at *
                    cases y <;> first | rfl | (simp [leaf] at hlf; done)
                  have hfp : fillP pl ti.zero [(k, [.v (a.eval x)])] = some (splice ti.zero 0 [.v (a.eval x)]) := by
                    simp [fillP, hk, hc.2]
                  obtain ⟨cells', c1, c2⟩ := fill_ok (cells := z.cells) (vs := [(k, a.eval x)]) hfp hz rfl (by
                    intro j p q hp hq
                    cases j with
                    | zero =>
                      simp at hp hq
                      subst hp hq
                      refine ⟨rfl, ?_⟩
                      rw [hcy]
                      exact ⟨⟨rfl, hlf⟩, trivial⟩
                    | succ j => simp at hp)
                  have hcl : cells'.toList = [a.eval x] := by
                    have h1 : splice ti.zero 0 [PL.v (a.eval x)] = [.v (a.eval x)] := by
                      simp only [splice, List.take_zero, List.nil_append, List.singleton_append, List.length_cons, List.length_nil, Nat.zero_add]
                      rw [List.drop_of_length_le (by omega)]
                    rw [h1] at c2
                    match hq : cells'.toList, c2 with
                    | [y], c2 => rw [PL.ats] at c2; rw [c2.1.1]
                    | [], c2 => simp [PL.ats] at c2
                    | _ :: _ :: _, c2 => simp [PL.ats] at c2
                  have hpm : ∀ w', (fs.mapM fun f => (do pure (f.offset, ← sizeOf f.type) : Sem (Nat × Nat))).run P w' = .ok ((l0.map fun x => (x.1, x.2.1)).toArray) w' := fun w' => by
                    rw [Array.mapM_eq_mapM_toList]
                    simp only [Sem.run_map]
                    have : fs.toList.mapM (fun f => (sizeT P f.type).map fun s => (f.offset, s)) = some (l0.map fun x => (x.1, x.2.1)) := by
                      refine mapM_proj (fun x : Nat × Nat × Bool => (x.1, x.2.1)) _ _ (fun f => ?_) hl0
                      cases sizeT P f.type <;> rfl
                    rw [mapM_run _ _ (fun f y hy => ?_) this]
                    · rfl
                    · simp only [Option.map_eq_some_iff] at hy
                      obtain ⟨sz, hsz, rfl⟩ := hy
                      obtain ⟨ti', _, hti', _, e⟩ := sizeT_ok hsz
                      simp [run_size' hti', e]
                  have hfun : (fun k => (l0.map fun x => (x.1, x.2.1)).toArray[k]?) = pl := by
                    rw [← hpl]
                    funext k
                    simp
                    cases l0[k]? <;> rfl
                  have hrun : ∀ w', (execOp a.eval o).run P w' = .ok (.value (.agg cells')) w' := fun w' => by
                    simp only [execOp, hop, Instr.build, Sem.run_bind, run_zero' i1 i3, Result.andThen_ok, run_underlying' i2, hpm, Sem.run_pure]
                    rw [hfun]
                    have hparts : (parts.map fun x => (x.1, a.eval x.2)).toList = [(k, a.eval x)] := by simp [hparts]
                    rw [hparts, c1]
                    rfl
                  refine ⟨_, fun w' _ => hrun w', [a.eval x], by rw [← hcl], rfl, fun j q u hq hu => ?_⟩
                  cases j with
                  | zero =>
                    simp [ovAt] at hq hu
                    subst hq hu
                    exact hv
                  | succ j => simp at hu
                · cases i6
              · cases hpl
            · cases hs
          · cases hs
        · cases hs
      · cases hs
    · cases hs
  · cases hs
theorem AwOps.buildM (hT : TT.ok P T) {n d b m : Nat} {s : List (Nat × AV)} {h : List (Nat × HB)} (hs : Aw.buildM T ops i n s h = some (d, b, m)) (hK : AwOps P C ops l ⟨n, (d, .mix [.sl []] [(0, .own b m)]) :: s, h⟩ K) : AwOps P C ops (i :: l) ⟨n, s, h⟩ K := AwOps.yd (Yd.buildM hT hs) hK

/-- A struct of zeros: its slices are nil. -/
def buildZ (T : TT) (ops : Array Oper) (i n : Nat) (s : List (Nat × AV)) (h : List (Nat × HB)) : Option (Nat × List PL) := match ops[i]? with
  | some o => match gd ops ⟨n, s, h⟩ o, o.op, o.dst with
    | some true, .build t parts, some d => match T.lookup t, parts.toList with
      | some ti, [] => match places ti with
        | some _ => if d < n then some (d, ti.zero) else none
        | none => none
      | _, _ => none
    | _, _, _ => none
  | none => none
theorem Yd.buildZ (hT : TT.ok P T) {N : List Nat} {n d : Nat} {ps : List PL} {s : List (Nat × AV)} {h : List (Nat × HB)} (hs : Aw.buildZ T ops i n s h = some (d, ps)) : Yd P C ops N i ⟨n, s, h⟩ d (.mix ps (zeroOv 0 ps)) := by
  unfold Aw.buildZ at hs
  split at hs
  · rename_i o ho
    split at hs
    · rename_i t parts d' hg hop hd
      split at hs
      · rename_i ti hti hparts
        split at hs
        · rename_i pl hpl
          split at hs
          · rename_i hn
            injection hs with hs
            injection hs with hs1 hs2
            subst hs1 hs2
            refine Yd.of ho hg hd hn fun a w β r => ?_
            obtain ⟨xi, dd, z, i1, i2, i3, i4, i5, i6, i7, i8, i9⟩ := TI.info (hT _ _ hti)
            unfold places at hpl
            split at hpl
            · rename_i fl hkd
              obtain ⟨fs, rfl⟩ : ∃ fs, dd = .struct fs := by
                rw [hkd] at i6
                cases dd <;> simp only [tkOf] at i6 <;> first | exact ⟨_, rfl⟩ | (split at i6 <;> cases i6; done) | cases i6
              rw [hkd] at i6
              simp only [tkOf] at i6
              split at i6
              · rename_i l0 hl0
                have hpm : ∀ w', (fs.mapM fun f => (do pure (f.offset, ← sizeOf f.type) : Sem (Nat × Nat))).run P w' = .ok ((l0.map fun x => (x.1, x.2.1)).toArray) w' := fun w' => by
                  rw [Array.mapM_eq_mapM_toList]
                  simp only [Sem.run_map]
                  have : fs.toList.mapM (fun f => (sizeT P f.type).map fun s => (f.offset, s)) = some (l0.map fun x => (x.1, x.2.1)) := by
                    refine mapM_proj (fun x : Nat × Nat × Bool => (x.1, x.2.1)) _ _ (fun f => ?_) hl0
                    cases sizeT P f.type <;> rfl
                  rw [mapM_run _ _ (fun f y hy => ?_) this]
                  · rfl
                  · simp only [Option.map_eq_some_iff] at hy
                    obtain ⟨sz, hsz, rfl⟩ := hy
                    obtain ⟨ti', _, hti', _, e⟩ := sizeT_ok hsz
                    simp [run_size' hti', e]
                have hrun : ∀ w', (execOp a.eval o).run P w' = .ok (.value (.agg z.cells)) w' := fun w' => by
                  simp only [execOp, hop, Instr.build, Sem.run_bind, run_zero' i1 i3, Result.andThen_ok, run_underlying' i2, hpm, Sem.run_pure]
                  have hparts : (parts.map fun x => (x.1, a.eval x.2)).toList = [] := by simp [hparts]
                  rw [hparts]
                  rfl
                refine ⟨_, fun w' _ => hrun w', z.cells.toList, by simp, by rw [← i8]; simp, fun j q u hq hu => ?_⟩
                have hcp : ti.zero[j]? = some (cpl u) := by rw [← i8, List.getElem?_map, hu]; rfl
                have hlf : leaf u = true := List.all_eq_true.1 i9 _ (List.mem_of_getElem? hu)
                unfold ovAt at hq
                split at hq
                · rename_i x hx
                  injection hq with hq
                  subst hq
                  obtain ⟨k, e1, e2, e3⟩ := zeroOv_look hx
                  rw [Nat.zero_add] at e1
                  subst e1
                  rw [hcp] at e2
                  injection e2 with e2
                  subst e3
                  unfold cpl at e2
                  split at e2
                  · rfl
                  · cases e2
                · rw [hcp] at hq
                  simp at hq
                  subst hq
                  exact cpl_at w _ hlf
              · cases i6
            · cases hpl
          · cases hs
        · cases hs
      · cases hs
    · cases hs
  · cases hs
theorem AwOps.buildZ (hT : TT.ok P T) {n d : Nat} {ps : List PL} {s : List (Nat × AV)} {h : List (Nat × HB)} (hs : Aw.buildZ T ops i n s h = some (d, ps)) (hK : AwOps P C ops l ⟨n, (d, .mix ps (zeroOv 0 ps)) :: s, h⟩ K) : AwOps P C ops (i :: l) ⟨n, s, h⟩ K := AwOps.yd (Yd.buildZ hT hs) hK

/-- Such a struct is stored, whole. -/
def stoM (T : TT) (ops : Array Oper) (i n : Nat) (s : List (Nat × AV)) (h : List (Nat × HB)) : Option (Nat × Nat × List PL × List (Nat × AL)) := match ops[i]? with
  | some o => match gd ops ⟨n, s, h⟩ o, o.op, o.dst with
    | some true, .store t x v, none => match T.lookup t, ev ⟨n, s, h⟩ x, ev ⟨n, s, h⟩ v with
      | some ti, some (.one (.ptr c 0)), some (.mix ps ov) => match h.lookup c with
        | some (.box B) => if ti.size = ps.length ∧ B.ps.length = ps.length ∧ (ov.all fun x => solid h x.2) = true then some (c, B.ty, ps, ov) else none
        | _ => none
      | _, _, _ => none
    | _, _, _ => none
  | none => none
theorem Ed.stoM (hT : TT.ok P T) {N : List Nat} {n c ty : Nat} {ps : List PL} {ov : List (Nat × AL)} {s : List (Nat × AV)} {h : List (Nat × HB)} (hs : Aw.stoM T ops i n s h = some (c, ty, ps, ov)) (hN : c ∈ N) (hK : K ⟨n, s, (c, .box ⟨ty, ps, ov⟩) :: h⟩) : Ed P C ops N i ⟨n, s, h⟩ K := by
  unfold Aw.stoM at hs
  split at hs
  · rename_i o ho
    split at hs
    · rename_i t x v hg hop hd
      split at hs
      · rename_i ti c' ps' ov' hti hx hv
        split at hs
        · rename_i B hb
          split at hs
          · rename_i hsz
            injection hs with hs
            injection hs with hs1 hs
            injection hs with hs2 hs
            injection hs with hs3 hs4
            subst hs1 hs2 hs3 hs4
            refine Ed.of ho hg fun a w β r _ => ?_
            obtain ⟨ys, hy, hyl, hyr⟩ := r.ev hv
            have hlf : ∀ (j : Nat) (u : Value), ys[j]? = some u → leaf u = true := fun j u hu => by
              have hj : j < ps'.length := by rw [← hyl]; exact getElem?_prop hu
              cases ho2 : ov'.lookup j with
              | some x =>
                have := List.all_eq_true.1 hsz.2.2 _ (lookup_mem ho2)
                exact solid_leaf r this (hyr j x u (by unfold ovAt; rw [ho2]) hu)
              | none => exact PL.at_leaf (hyr j (.p ps'[j]) u (by unfold ovAt; rw [ho2]; simp [hj]) hu)
            have hx' := r.ev hx
            have hok := r.heap c' _ hb
            simp only [AVs, AV.rep, AL.rep] at hx'
            cases hl : β c' with
            | here g c =>
              rw [hl] at hx' hok
              obtain ⟨arr, k1, k2, k3⟩ := hok
              obtain ⟨xi, d, z, i1, i2, i3, i4, _⟩ := TI.info (hT _ _ hti)
              have hcl : (a.eval v).cells.toList = ys := by rw [hy]; simp [Value.cells]
              obtain ⟨arr', q1, q2, q3⟩ := run_storeCells (P := P) (a.eval v).cells.toList w arr 0 0 k1 (by rw [hcl, hyl]; omega) (fun j _ => by simp) (fun u hu => by rw [hcl] at hu; obtain ⟨j, hj⟩ := List.getElem?_of_mem hu; exact hlf j u hj)
              have hrun : (execOp a.eval o).run P w = .ok .skip (setBlk w g (.cells arr' B.ty (0, 0))) := by
                have hs : (a.eval v).cells.size = ti.size := by rw [hsz.1, ← Array.length_toList, hcl, hyl]
                simp [execOp, hop, Instr.storeAt, hx', Instr.sureAddr, storeVar, run_size' i1, i4, hs, q1]
              simp only [Oper.wp, hrun, Oper.upon_skip, hd, Act.put]
              have hstg : St (fun k => k = g) w (setBlk w g (.cells arr' B.ty (0, 0))) := setBlk_st w g _ rfl
              have hstM : St (Mt C h β) w (setBlk w g (.cells arr' B.ty (0, 0))) := hstg.mono (fun k _ e => .inr ⟨c', _, c, hb, by rw [e]; exact hl⟩)
              have hMM : ∀ k, k < w.heap.size → Mt C ((c', HB.box ⟨B.ty, ps', ov'⟩) :: h) β k → Mt C h β k := fun k _ hm => by
                rcases hm with hm | ⟨b2, x', cap, hb', hl'⟩
                · exact .inl hm
                · by_cases e : b2 = c'
                  · subst e; exact .inr ⟨b2, _, cap, hb, hl'⟩
                  · rw [lookup_cons_ne _ _ e] at hb'; exact .inr ⟨b2, x', cap, hb', hl'⟩
              refine ⟨_, β, hK, r.over hb hl hstg ⟨arr', setBlk_at _ _ _ (r.young c' _ g c hb hl).1, by rw [q2, k2]; exact hsz.2.1, fun j q u hq hu => ?_⟩, Mv.over hb hl hN hstg⟩
              rw [q3 j, hcl] at hu
              have hj : j < ys.length := by
                have h1 := (Array.getElem?_eq_some_iff.1 (show arr'[j]? = some u by rw [q3 j, hcl]; exact hu)).1
                rw [q2, k2, hsz.2.1, ← hyl] at h1
                exact h1
              rw [if_pos (by omega)] at hu
              simp only [Nat.add_zero, Nat.sub_zero] at hu
              exact ⟨ALs.move (hyr j q u hq hu) hstM hMM (Tells.refl _ _), hlf j u hu⟩
            | nil => rw [hl] at hok; exact hok.elim
            | dead => rw [hl] at hok; exact hok.elim
          · cases hs
        · cases hs
      · cases hs
    · cases hs
  · cases hs
theorem AwOps.stoM (hT : TT.ok P T) {n c ty : Nat} {ps : List PL} {ov : List (Nat × AL)} {s : List (Nat × AV)} {h : List (Nat × HB)} (hs : Aw.stoM T ops i n s h = some (c, ty, ps, ov)) (hK : AwOps P C ops l ⟨n, s, (c, .box ⟨ty, ps, ov⟩) :: h⟩ K) : AwOps P C ops (i :: l) ⟨n, s, h⟩ K :=
  AwOps.ed (N := [c]) (Ed.stoM hT hs (List.mem_singleton.2 rfl) hK)

/-- The nil slice in a variable, as a row of one's own. -/
theorem Tn.ownC (c o d e sz : Nat) {n : Nat} {B : Box} {s : List (Nat × AV)} {h : List (Nat × HB)} (hc : h.lookup c = some (.box B)) (ho : ovAt B.ps B.ov o = some .nil) (hsz : 0 < sz) (hd : d < 1000) (hcd : (c == d) = false) (hno : AS.no d ⟨n, s, h⟩ = true) :
    Tn ⟨n, s, h⟩ ⟨n, s, (c, .box ⟨B.ty, B.ps.set o (.sl []), (o, .own d 0) :: B.ov.filter fun x => x.1 != o⟩) :: (d, .row e sz true []) :: h⟩ := by
  rintro _ C a w ⟨β, r⟩
  replace hcd : c ≠ d := by simpa using hcd
  have r1 := r.row (d := d) (ob := none) (x := .row e sz true []) (loc := .nil) hno hd (fun b h => by cases h) (St.refl _ _) (fun g c h => by cases h) ⟨rfl, hsz⟩
  have hc1 : ((d, HB.row e sz true []) :: h).lookup c = some (.box B) := by rw [lookup_cons_ne _ _ hcd]; exact hc
  have hlk : ∀ k, ((c, HB.box ⟨B.ty, B.ps.set o (.sl []), (o, .own d 0) :: B.ov.filter fun x => x.1 != o⟩) :: (d, HB.row e sz true []) :: h).lookup k = if k = c then some (HB.box ⟨B.ty, B.ps.set o (.sl []), (o, .own d 0) :: B.ov.filter fun x => x.1 != o⟩) else ((d, HB.row e sz true []) :: h).lookup k := fun k => by
    by_cases e : k = c
    · subst e; rw [if_pos rfl, lookup_cons_self]
    · rw [if_neg e, lookup_cons_ne _ _ e]
  have hex : ∀ k x, ((c, HB.box ⟨B.ty, B.ps.set o (.sl []), (o, .own d 0) :: B.ov.filter fun x => x.1 != o⟩) :: (d, HB.row e sz true []) :: h).lookup k = some x → ∃ x', ((d, HB.row e sz true []) :: h).lookup k = some x' := fun k x hk => by
    rw [hlk] at hk
    by_cases e : k = c
    · subst e; exact ⟨_, hc1⟩
    · rw [if_neg e] at hk; exact ⟨_, hk⟩
  have hlive : ∀ k, live ((c, HB.box ⟨B.ty, B.ps.set o (.sl []), (o, .own d 0) :: B.ov.filter fun x => x.1 != o⟩) :: (d, HB.row e sz true []) :: h) (upd β d .nil) k → live ((d, HB.row e sz true []) :: h) (upd β d .nil) k := by
    rintro k ⟨b', x, c', h1, h2⟩
    obtain ⟨x', hx'⟩ := hex b' x h1
    exact ⟨b', x', c', hx', h2⟩
  have hgood : ∀ k, good (Mt C ((d, HB.row e sz true []) :: h) (upd β d .nil)) w k → good (Mt C ((c, HB.box ⟨B.ty, B.ps.set o (.sl []), (o, .own d 0) :: B.ov.filter fun x => x.1 != o⟩) :: (d, HB.row e sz true []) :: h) (upd β d .nil)) w k ∧ w.heap[k]? = w.heap[k]? := fun k hk => ⟨⟨hk.1, fun hm => hk.2 (hm.imp id (hlive k))⟩, rfl⟩
  refine ⟨upd β d .nil, ⟨r1.defers, r1.step, r1.sub, r1.pbM, r1.pbhi, r1.pbl, fun k x hk => ?_, fun k x g c' hk hl => ?_, fun k k' x x' g c1 c2 hk hk' hl hl' => ?_, r1.size, fun t x hx => ?_⟩⟩
  · rw [hlk] at hk
    by_cases ek : k = c
    · subst ek
      rw [if_pos rfl] at hk
      injection hk with hk
      subst hk
      have hok := r1.heap k _ hc1
      cases hl : upd β d .nil k with
      | dead => rw [show (goneM none β) = β from rfl, hl] at hok; exact hok.elim
      | nil => rw [show (goneM none β) = β from rfl, hl] at hok; exact hok.elim
      | here g cc =>
        rw [show (goneM none β) = β from rfl, hl] at hok
        obtain ⟨arr, h1, h2, h3⟩ := hok
        refine ⟨arr, h1, by simpa using h2, fun j q u hq hu => ?_⟩
        by_cases ej : j = o
        · subst ej
          simp only [ovAt, lookup_cons_self, Option.some.injEq] at hq
          subst hq
          have := h3 j .nil u ho hu
          refine ⟨?_, this.2⟩
          simp only [ALs, AL.rep, upd_self]
          exact ⟨this.1, trivial⟩
        · have hjo : (j != o) = true := by simpa using ej
          simp only [ovAt, lookup_cons_ne _ _ ej, lookup_filter (fun k => k != o), hjo, if_true, List.getElem?_set_ne (Ne.symm ej)] at hq
          have := h3 j q u hq hu
          exact ⟨AL.rep_turn this.1 hgood (Tells.refl _ _), this.2⟩
    · rw [if_neg ek] at hk
      exact HB.ok_move (r1.heap k x hk) (St.refl _ _) (fun k _ hm => hm.imp id (hlive k)) (Tells.refl _ _) (fun _ _ _ => rfl)
  · obtain ⟨x', hx'⟩ := hex k x hk
    exact r1.young k x' g c' hx' hl
  · obtain ⟨y, hy⟩ := hex k x hk
    obtain ⟨y', hy'⟩ := hex k' x' hk'
    exact r1.apart k k' y y' g c1 c2 hy hy' hl hl'
  · obtain ⟨y, hy, hv⟩ := r1.slots t x hx
    exact ⟨y, hy, AV.rep_turn hv hgood (Tells.refl _ _)⟩

/-- A row told otherwise. -/
theorem Tn.sayH {b : Nat} {A B : HB} {n : Nat} {s : List (Nat × AV)} {h : List (Nat × HB)} (hs : h.lookup b = some A) (e : A = B) : Tn ⟨n, s, h⟩ ⟨n, s, (b, B) :: h⟩ := by
  subst e
  rintro _ C a w ⟨β, r⟩
  refine ⟨β, r.less rfl (fun _ _ h => h) fun k x hk => ?_⟩
  by_cases ek : k = b
  · subst ek; rw [lookup_cons_self] at hk; rw [hs]; exact hk
  · rw [lookup_cons_ne _ _ ek] at hk; exact hk

/-! ### Regions in one order that stands for all: states turned -/
theorem AwAny.turnG {N : List Nat} {fuel : Nat} {listed : Array Bool} (H : ∀ a w β, Rel C σ a w β → ∃ β', Rel C τ a w β' ∧ ∀ k, tch τ.h β' N k → tch σ.h β N k) (k : AwAny P C ops N fuel listed τ K) : AwAny P C ops N fuel listed σ K := by
  intro a w β r
  obtain ⟨β', r', ht⟩ := H a w β r
  exact wpAnyH_weak (fun w' hw' => hw'.mono fun b _ hb => ht b hb) _ _ _ _ (k a w β' r')
theorem AwSch.freeze (t : Nat) {N : List Nat} {listed : Array Bool} {order : List (Bool × Nat)} {n b m ty sz : Nat} {pl : Bool} {es : List (List PL)} {s : List (Nat × AV)} {h : List (Nat × HB)} (hs : s.lookup t = some (.one (.own b m))) (hb : h.lookup b = some (.row ty sz pl es)) (hm : m = es.length) (hlo : Nat.blt b 1000 = true)
    (k : AwSch P C ops N listed order ⟨n, (t, .one (.p (.sl es))) :: s, (b, .gone) :: h⟩ K) : AwSch P C ops N listed order ⟨n, s, h⟩ K := by
  intro hn ho
  refine AwAny.turnG (fun a w β r => ?_) (k hn ho)
  replace hlo : b < 1000 := by simpa using hlo
  obtain ⟨y, hy, hv⟩ := r.slots t _ hs
  refine ⟨_, (r.forget (b := b) hlo).same hy (by have := fz_at hlo r hb hv (Nat.le_of_eq hm); rwa [hm, List.take_length] at this), ?_⟩
  rintro k ⟨b', hb', x, c, h1, h2⟩
  by_cases e : b' = b
  · subst e; rw [upd_self] at h2; cases h2
  · rw [lookup_cons_ne _ _ e] at h1
    rw [upd_ne _ _ e] at h2
    exact ⟨b', hb', x, c, h1, h2⟩
theorem AwSch.sayH {b : Nat} {A B : HB} {N : List Nat} {listed : Array Bool} {order : List (Bool × Nat)} {n : Nat} {s : List (Nat × AV)} {h : List (Nat × HB)} (hs : h.lookup b = some A) (e : A = B) (k : AwSch P C ops N listed order ⟨n, s, (b, B) :: h⟩ K) : AwSch P C ops N listed order ⟨n, s, h⟩ K := by
  intro hn ho
  subst e
  refine AwAny.turnG (τ := ⟨n, s, (b, A) :: h⟩) (fun a w β r => ⟨β, r.less rfl (fun _ _ h => h) fun k x hk => ?_, ?_⟩) (k hn ho)
  · replace hk : ((b, A) :: h).lookup k = some x := hk
    by_cases ek : k = b
    · subst ek; rw [lookup_cons_self] at hk; exact hs.trans hk
    · rw [lookup_cons_ne _ _ ek] at hk; exact hk
  · rintro k ⟨b', hb', x, c, h1, h2⟩
    replace h1 : ((b, A) :: h).lookup b' = some x := h1
    by_cases ek : b' = b
    · subst ek; exact ⟨b', hb', A, c, hs, h2⟩
    · rw [lookup_cons_ne _ _ ek] at h1; exact ⟨b', hb', x, c, h1, h2⟩

/-! ### Calls, with what stands told in one list -/
def upB : List Nat → List (TypeId × List PL) → List (List PL) → List (Nat × HB)
  | b :: bs, (t, _) :: H, ps :: H' => (b, .box ⟨t, ps, []⟩) :: upB bs H H'
  | _, _, _ => []
theorem upB_eq : ∀ (bs : List Nat) (H : List (TypeId × List PL)) (H' : List (List PL)), updH bs H H' = upB bs H H'
  | b :: bs, (t, _) :: H, ps :: H' => by rw [updH, upB, upB_eq bs H H']
  | [], _, _ => by simp [updH, upB]
  | _ :: _, [], _ => by simp [updH, upB]
  | _ :: _, _ :: _, [] => by simp [updH, upB]
section
variable {N : List Nat} {listed : Array Bool} {order : List (Bool × Nat)} {f : FuncId} {n d : Nat} {As : List AV} {xs : List AR} {H : List (TypeId × List PL)} {post : AV → List (List PL) → Prop} {s : List (Nat × AV)} {h : List (Nat × HB)}
theorem Ed.cl (hf : Fn P f xs H post) (bs : List Nat) (hc : callOf ops i ⟨n, s, h⟩ = some (f, some d, As)) (hfit : fits bs xs As) (hheld : held h bs H) (hbs : nodupB bs = true) (hN : (bs.all fun b => N.contains b) = true)
    (hK : ∀ r H', post r H' → K ⟨n, (d, r) :: s, upB bs H H' ++ h⟩) : Ed P C ops N i ⟨n, s, h⟩ K :=
  Ed.call hf bs hc hfit hheld hbs (fun b hb => by simpa using List.all_eq_true.1 hN b hb) (fun r H' hp _ _ => by have := hK r H' hp; rw [← upB_eq] at this; exact this)
theorem AwOps.cl (hf : Fn P f xs H post) (bs : List Nat) (hc : callOf ops i ⟨n, s, h⟩ = some (f, some d, As)) (hfit : fits bs xs As) (hheld : held h bs H) (hbs : nodupB bs = true)
    (hK : ∀ r H', post r H' → AwOps P C ops l ⟨n, (d, r) :: s, upB bs H H' ++ h⟩ K) : AwOps P C ops (i :: l) ⟨n, s, h⟩ K :=
  AwOps.ed (N := bs) (Ed.cl hf bs hc hfit hheld hbs (by simp) hK)
theorem Ed.cl0 (hf : Fn P f xs H post) (bs : List Nat) (hc : callOf ops i ⟨n, s, h⟩ = some (f, none, As)) (hfit : fits bs xs As) (hheld : held h bs H) (hbs : nodupB bs = true) (hN : (bs.all fun b => N.contains b) = true)
    (hK : ∀ r H', post r H' → K ⟨n, s, upB bs H H' ++ h⟩) : Ed P C ops N i ⟨n, s, h⟩ K :=
  Ed.call hf bs hc hfit hheld hbs (fun b hb => by simpa using List.all_eq_true.1 hN b hb) (fun r H' hp _ _ => by have := hK r H' hp; rw [← upB_eq] at this; exact this)
theorem AwOps.cl0 (hf : Fn P f xs H post) (bs : List Nat) (hc : callOf ops i ⟨n, s, h⟩ = some (f, none, As)) (hfit : fits bs xs As) (hheld : held h bs H) (hbs : nodupB bs = true)
    (hK : ∀ r H', post r H' → AwOps P C ops l ⟨n, s, upB bs H H' ++ h⟩ K) : AwOps P C ops (i :: l) ⟨n, s, h⟩ K :=
  AwOps.ed (N := bs) (Ed.cl0 hf bs hc hfit hheld hbs (by simp) hK)
end
theorem Tn.fz (t : Nat) {n b m ty sz : Nat} {pl : Bool} {es : List (List PL)} {s : List (Nat × AV)} {h : List (Nat × HB)} (hs : s.lookup t = some (.one (.own b m))) (hb : h.lookup b = some (.row ty sz pl es)) (hm : m = es.length) (hlo : Nat.blt b 1000 = true) :
    Tn ⟨n, s, h⟩ ⟨n, (t, .one (.p (.sl es))) :: s, (b, .gone) :: h⟩ := Tn.freeze t hs hb hm (by simpa using hlo)

/-! ### Integers told as they are -/
section
variable {N : List Nat} {listed : Array Bool} {order : List (Bool × Nat)} {n : Nat} {x : Int} {c : Int} {s : List (Nat × AV)} {h : List (Nat × HB)}
theorem AwOps.nm (t : Nat) (hs : s.lookup t = some (sc (.int .i64 (IntKind.wrap .i64 x)))) (h1 : -9223372036854775808 ≤ x) (h2 : x ≤ 9223372036854775807) (k : AwOps P C ops l ⟨n, (t, sc (.int .i64 x)) :: s, h⟩ K) : AwOps P C ops l ⟨n, s, h⟩ K :=
  AwOps.turn (Less.say hs (by rw [w64_of h1 h2])) k
theorem AwSch.nm (t : Nat) (hs : s.lookup t = some (sc (.int .i64 (IntKind.wrap .i64 x)))) (h1 : -9223372036854775808 ≤ x) (h2 : x ≤ 9223372036854775807) (k : AwSch P C ops N listed order ⟨n, (t, sc (.int .i64 x)) :: s, h⟩ K) : AwSch P C ops N listed order ⟨n, s, h⟩ K :=
  AwSch.say hs (by rw [w64_of h1 h2]) k
theorem AwOps.nmr (t : Nat) (hs : s.lookup t = some (sc (.int .i64 (x.tmod c)))) (h1 : 0 ≤ x) (k : AwOps P C ops l ⟨n, (t, sc (.int .i64 (x % c))) :: s, h⟩ K) : AwOps P C ops l ⟨n, s, h⟩ K :=
  AwOps.turn (Less.say hs (by rw [Int.tmod_eq_emod_of_nonneg h1])) k
theorem AwSch.nmr (t : Nat) (hs : s.lookup t = some (sc (.int .i64 (x.tmod c)))) (h1 : 0 ≤ x) (k : AwSch P C ops N listed order ⟨n, (t, sc (.int .i64 (x % c))) :: s, h⟩ K) : AwSch P C ops N listed order ⟨n, s, h⟩ K :=
  AwSch.say hs (by rw [Int.tmod_eq_emod_of_nonneg h1]) k
theorem wq {x c : Int} (h1 : 0 ≤ x) (h2 : 0 < c) (h3 : x ≤ 9223372036854775807) : IntKind.wrap .i64 (x.tdiv c) = x / c := IntWalk.i64_quo x c ⟨h1, h3, h2⟩
theorem AwOps.nmq (t : Nat) (hs : s.lookup t = some (sc (.int .i64 (IntKind.wrap .i64 (x.tdiv c))))) (h1 : 0 ≤ x) (h2 : 0 < c) (h3 : x ≤ 9223372036854775807) (k : AwOps P C ops l ⟨n, (t, sc (.int .i64 (x / c))) :: s, h⟩ K) : AwOps P C ops l ⟨n, s, h⟩ K :=
  AwOps.turn (Less.say hs (by rw [wq h1 h2 h3])) k
theorem AwSch.nmq (t : Nat) (hs : s.lookup t = some (sc (.int .i64 (IntKind.wrap .i64 (x.tdiv c))))) (h1 : 0 ≤ x) (h2 : 0 < c) (h3 : x ≤ 9223372036854775807) (k : AwSch P C ops N listed order ⟨n, (t, sc (.int .i64 (x / c))) :: s, h⟩ K) : AwSch P C ops N listed order ⟨n, s, h⟩ K :=
  AwSch.say hs (by rw [wq h1 h2 h3]) k
end

/-! ### Fields of elements of a row of one's own -/
def faoV (T : TT) (ops : Array Oper) (i n : Nat) (s : List (Nat × AV)) (h : List (Nat × HB)) : Option (Nat × Nat × Nat × Nat × Nat) := match ops[i]? with
  | some o => match gd ops ⟨n, s, h⟩ o, o.op, o.dst with
    | some true, .fieldAddr t x f, some d => match T.lookup t, ev ⟨n, s, h⟩ x with
      | some ti, some (.one (.oel b k sz off)) => match fld ti f with
        | some (fo, fs, _) => if d < n ∧ fs ≠ 0 then some (d, b, k, sz, off + fo) else none
        | none => none
      | _, _ => none
    | _, _, _ => none
  | none => none
theorem Yd.fao (hT : TT.ok P T) {N : List Nat} {n d b k sz off ty sz2 : Nat} {pl : Bool} {es : List (List PL)} {s : List (Nat × AV)} {h : List (Nat × HB)} (hs : faoV T ops i n s h = some (d, b, k, sz, off)) (hb : h.lookup b = some (.row ty sz2 pl es)) (hk : 0 < es.length) :
    Yd P C ops N i ⟨n, s, h⟩ d (.one (.oel b k sz off)) := by
  unfold faoV at hs
  split at hs
  · rename_i o ho
    split at hs
    · rename_i t x f d' hg hop hd
      split at hs
      · rename_i ti b' k' sz' off' hti hx
        split at hs
        · rename_i fo fs ag hf
          split at hs
          · rename_i hn
            injection hs with hs
            injection hs with hs1 hs
            injection hs with hs2 hs
            injection hs with hs3 hs
            injection hs with hs4 hs5
            subst hs1 hs2 hs3 hs4 hs5
            refine Yd.of ho hg hd hn.1 fun a w β r => ?_
            have hv := r.ev hx
            have hok := r.heap b' _ hb
            simp only [AVs, AV.rep, AL.rep] at hv
            cases hl : β b' with
            | dead => rw [hl] at hok; exact hok.elim
            | nil => rw [hl] at hok; obtain ⟨rfl, _⟩ := hok; simp at hk
            | here g c =>
              rw [hl] at hv
              refine ⟨.pointer (some ((⟨g, k' * sz' + off', none⟩ : Addr).add fo)), fun w' _ => by simp [execOp, hop, hv, run_fieldAt (hT _ _ hti) hf hn.2], ?_⟩
              simp only [AVs, AV.rep, AL.rep, hl, add_at, Nat.add_assoc]
          · cases hs
        · cases hs
      · cases hs
    · cases hs
  · cases hs
theorem AwOps.fao (hT : TT.ok P T) {n d b k sz off ty sz2 : Nat} {pl : Bool} {es : List (List PL)} {s : List (Nat × AV)} {h : List (Nat × HB)} (hs : faoV T ops i n s h = some (d, b, k, sz, off)) (hb : h.lookup b = some (.row ty sz2 pl es)) (hk : 0 < es.length)
    (hK : AwOps P C ops l ⟨n, (d, .one (.oel b k sz off)) :: s, h⟩ K) : AwOps P C ops (i :: l) ⟨n, s, h⟩ K := AwOps.yd (Yd.fao hT hs hb hk) hK

/-! ### Regions over which is branched -/
section
variable {N : List Nat} {fuel : Nat} {listed : Array Bool} {n : Nat} {x : Int} {c : Int} {s : List (Nat × AV)} {h : List (Nat × HB)}
theorem AwAny.say {t : Nat} {A B : AV} (hs : s.lookup t = some A) (e : A = B) (k : AwAny P C ops N fuel listed ⟨n, (t, B) :: s, h⟩ K) : AwAny P C ops N fuel listed ⟨n, s, h⟩ K := by
  intro a w β r
  obtain ⟨y, hy, hv⟩ := r.slots t _ hs
  subst e
  exact k a w β (r.same hy hv)
theorem AwAny.nm (t : Nat) (hs : s.lookup t = some (sc (.int .i64 (IntKind.wrap .i64 x)))) (h1 : -9223372036854775808 ≤ x) (h2 : x ≤ 9223372036854775807) (k : AwAny P C ops N fuel listed ⟨n, (t, sc (.int .i64 x)) :: s, h⟩ K) : AwAny P C ops N fuel listed ⟨n, s, h⟩ K :=
  AwAny.say hs (by rw [w64_of h1 h2]) k
theorem AwAny.nmr (t : Nat) (hs : s.lookup t = some (sc (.int .i64 (x.tmod c)))) (h1 : 0 ≤ x) (k : AwAny P C ops N fuel listed ⟨n, (t, sc (.int .i64 (x % c))) :: s, h⟩ K) : AwAny P C ops N fuel listed ⟨n, s, h⟩ K :=
  AwAny.say hs (by rw [Int.tmod_eq_emod_of_nonneg h1]) k
theorem AwAny.nmq (t : Nat) (hs : s.lookup t = some (sc (.int .i64 (IntKind.wrap .i64 (x.tdiv c))))) (h1 : 0 ≤ x) (h2 : 0 < c) (h3 : x ≤ 9223372036854775807) (k : AwAny P C ops N fuel listed ⟨n, (t, sc (.int .i64 (x / c))) :: s, h⟩ K) : AwAny P C ops N fuel listed ⟨n, s, h⟩ K :=
  AwAny.say hs (by rw [wq h1 h2 h3]) k
theorem AwAny.freeze (t : Nat) {b m ty sz : Nat} {pl : Bool} {es : List (List PL)} (hs : s.lookup t = some (.one (.own b m))) (hb : h.lookup b = some (.row ty sz pl es)) (hm : m = es.length) (hlo : Nat.blt b 1000 = true)
    (k : AwAny P C ops N fuel listed ⟨n, (t, .one (.p (.sl es))) :: s, (b, .gone) :: h⟩ K) : AwAny P C ops N fuel listed ⟨n, s, h⟩ K := by
  refine AwAny.turnG (fun a w β r => ?_) k
  replace hlo : b < 1000 := by simpa using hlo
  obtain ⟨y, hy, hv⟩ := r.slots t _ hs
  refine ⟨_, (r.forget (b := b) hlo).same hy (by have := fz_at hlo r hb hv (Nat.le_of_eq hm); rwa [hm, List.take_length] at this), ?_⟩
  rintro k ⟨b', hb', x, c, h1, h2⟩
  by_cases e : b' = b
  · subst e; rw [upd_self] at h2; cases h2
  · rw [lookup_cons_ne _ _ e] at h1
    rw [upd_ne _ _ e] at h2
    exact ⟨b', hb', x, c, h1, h2⟩
theorem AwAny.three {i j m : Nat} {σ : AS} (hr : Region.ready .any ops listed = [i, j, m]) (h : Ed P C ops N i σ (fun σ' => AwAny P C ops N fuel (listed.setIfInBounds i true) σ' K))
    (h' : Ed P C ops N j σ (fun σ' => AwAny P C ops N fuel (listed.setIfInBounds j true) σ' K)) (h'' : Ed P C ops N m σ (fun σ' => AwAny P C ops N fuel (listed.setIfInBounds m true) σ' K)) : AwAny P C ops N (fuel + 1) listed σ K :=
  AwAny.all hr (by simp) fun k hk => by
    simp only [List.mem_cons, List.not_mem_nil, or_false] at hk
    rcases hk with rfl | rfl | rfl
    · exact h
    · exact h'
    · exact h''
theorem AwAny.tk {i d : Nat} {A : AV} (hy : Yd P C ops N i ⟨n, s, h⟩ d A) (hs : (Region.noSelect ops && Region.free .any ops listed i && (Region.ready .any ops listed).contains i) = true)
    (k : AwAny P C ops N fuel (listed.setIfInBounds i true) ⟨n, (d, A) :: s, h⟩ K) : AwAny P C ops N (fuel + 1) listed ⟨n, s, h⟩ K := by
  simp only [Bool.and_eq_true] at hs
  exact AwAny.take hy hs.1.1 hs.1.2 hs.2 k
end

theorem AwAny.sayH {b : Nat} {A B : HB} {N : List Nat} {fuel : Nat} {listed : Array Bool} {n : Nat} {s : List (Nat × AV)} {h : List (Nat × HB)} (hs : h.lookup b = some A) (e : A = B) (k : AwAny P C ops N fuel listed ⟨n, s, (b, B) :: h⟩ K) : AwAny P C ops N fuel listed ⟨n, s, h⟩ K := by
  subst e
  refine AwAny.turnG (τ := ⟨n, s, (b, A) :: h⟩) (fun a w β r => ⟨β, r.less rfl (fun _ _ h => h) fun k x hk => ?_, ?_⟩) k
  · replace hk : ((b, A) :: h).lookup k = some x := hk
    by_cases ek : k = b
    · subst ek; rw [lookup_cons_self] at hk; exact hs.trans hk
    · rw [lookup_cons_ne _ _ ek] at hk; exact hk
  · rintro k ⟨b', hb', x, c, h1, h2⟩
    replace h1 : ((b, A) :: h).lookup b' = some x := h1
    by_cases ek : b' = b
    · subst ek; exact ⟨b', hb', A, c, hs, h2⟩
    · rw [lookup_cons_ne _ _ ek] at h1; exact ⟨b', hb', x, c, h1, h2⟩
theorem AwOps.gen (t : Nat) {n : Nat} {k : IntKind} {x : Int} {s : List (Nat × AV)} {h : List (Nat × HB)} (hs : s.lookup t = some (sc (.int k x))) (H : ∀ y, y = x → AwOps P C ops l ⟨n, (t, sc (.int k y)) :: s, h⟩ K) : AwOps P C ops l ⟨n, s, h⟩ K :=
  AwOps.turn (Less.say hs rfl) (H x rfl)
theorem rowrep {α : Type} {f : α → List PL} {t sz n : Nat} {x : α} : HB.row t sz true (List.replicate n (f x)) = HB.row t sz true ((List.replicate n x).map f) := by simp

/-! ### A struct whose slices that are not given are nil -/
def cov (pl : Nat → Option (Nat × Nat)) (l : List (Nat × List PL)) (j : Nat) : Bool := l.any fun x => match pl x.1 with
  | some (o, sz) => Nat.ble o j && Nat.blt j (o + sz)
  | none => true
theorem foldset_keep (off j : Nat) : ∀ (vc : List Value) (k : Nat) (cells : Array Value), (¬ (off + k ≤ j ∧ j < off + k + vc.length)) → ((vc.zipIdx k).foldl (fun cs (x : Value × Nat) => cs.setIfInBounds (off + x.2) x.1) cells)[j]? = cells[j]?
  | [], _, _, _ => rfl
  | v :: vc, k, cells, h => by
    simp only [List.length_cons] at h
    rw [List.zipIdx_cons, List.foldl_cons, foldset_keep off j vc (k + 1) _ (by omega)]
    rw [Array.getElem?_setIfInBounds]
    have : off + k ≠ j := by omega
    simp [this]
theorem fill_keep {pl : Nat → Option (Nat × Nat)} {j : Nat} : ∀ {l : List (Nat × List PL)} {vs : List (Nat × Value)} {cells cells' : Array Value}, vs.map (·.1) = l.map (·.1) → cov pl l j = false → Instr.fill pl cells vs = some cells' → cells'[j]? = cells[j]?
  | _, [], _, _, _, _, h => by injection h with h; rw [h]
  | [], _ :: _, _, _, h, _, _ => by simp at h
  | (k', q) :: l, (k, v) :: vs, cells, cells', hm, hc, h => by
    simp only [List.map_cons, List.cons.injEq] at hm
    obtain ⟨rfl, hm⟩ := hm
    simp only [cov, List.any_cons, Bool.or_eq_false_iff] at hc
    unfold Instr.fill at h
    split at h
    · cases h
    · rename_i off sz hp
      split at h
      · cases h
      · rename_i hsz
        rw [fill_keep hm hc.2 h]
        have h1 := hc.1
        simp only [hp] at h1
        have hvs : v.cells.size = sz := by
          by_cases e : v.cells.size = sz
          · exact e
          · simp [e] at hsz
        rw [← Array.foldl_toList, Array.toList_zipIdx]
        refine foldset_keep off j v.cells.toList 0 cells ?_
        rintro ⟨q1, q2⟩
        have : (Nat.ble off j && Nat.blt j (off + sz)) = true := by
          simp only [Bool.and_eq_true]
          refine ⟨Nat.ble_eq_true_of_le (by omega), ?_⟩
          have : j < off + sz := by simp at q2; omega
          simpa using this
        rw [this] at h1
        cases h1
def buildNV (T : TT) (ops : Array Oper) (i n : Nat) (s : List (Nat × AV)) (h : List (Nat × HB)) : Option (Nat × List PL × List (Nat × AL)) := match ops[i]? with
  | some o => match gd ops ⟨n, s, h⟩ o, o.op, o.dst with
    | some true, .build t parts, some d => match T.lookup t with
      | some ti => match places ti, partsP ⟨n, s, h⟩ parts.toList with
        | some pl, some l => match fillP pl ti.zero l with
          | some ps => if d < n then some (d, ps, (zeroOv 0 ti.zero).filter fun x => !cov pl l x.1) else none
          | none => none
        | _, _ => none
      | none => none
    | _, _, _ => none
  | none => none
theorem lookup_filter_some {α : Type} {f : Nat × α → Bool} {l : List (Nat × α)} {k : Nat} {x : α} (h : (l.filter f).lookup k = some x) : (k, x) ∈ l ∧ f (k, x) = true := by
  have := lookup_mem h
  simpa using List.mem_filter.1 this
theorem zeroOv_mem : ∀ {ps : List PL} {k j : Nat} {x : AL}, (j, x) ∈ zeroOv k ps → ∃ i, j = k + i ∧ ps[i]? = some (.sl []) ∧ x = .nil
  | [], _, _, _, h => by simp [zeroOv] at h
  | q :: r, k, j, x, h => by
    rw [zeroOv] at h
    split at h
    · rename_i hq
      rcases List.mem_cons.1 h with h | h
      · injection h with h1 h2
        subst h1 h2
        exact ⟨0, rfl, by rw [isNilPL_ok hq]; rfl, rfl⟩
      · obtain ⟨i, h1, h2, h3⟩ := zeroOv_mem h
        exact ⟨i + 1, by omega, by simpa using h2, h3⟩
    · obtain ⟨i, h1, h2, h3⟩ := zeroOv_mem h
      exact ⟨i + 1, by omega, by simpa using h2, h3⟩
theorem vs_keys {β γ : Type} : ∀ {l : List (Nat × β)} {vs : List (Nat × γ)}, vs.length = l.length → (∀ (m : Nat) (x : Nat × β) (y : Nat × γ), l[m]? = some x → vs[m]? = some y → y.1 = x.1) → vs.map (·.1) = l.map (·.1)
  | [], [], _, _ => rfl
  | [], _ :: _, h, _ => by simp at h
  | _ :: _, [], h, _ => by simp at h
  | x :: l, y :: vs, h, hj => by
    rw [List.map_cons, List.map_cons, hj 0 x y rfl rfl, vs_keys (by simpa using h) fun m a b ha hb => hj (m + 1) a b (by simpa using ha) (by simpa using hb)]
theorem Yd.buildN (hT : TT.ok P T) {N : List Nat} {n d : Nat} {ps : List PL} {ov : List (Nat × AL)} {s : List (Nat × AV)} {h : List (Nat × HB)} (hs : buildNV T ops i n s h = some (d, ps, ov)) : Yd P C ops N i ⟨n, s, h⟩ d (.mix ps ov) := by
  unfold buildNV at hs
  split at hs
  · rename_i o ho
    split at hs
    · rename_i t parts d' hg hop hd
      split at hs
      · rename_i ti hti
        split at hs
        · rename_i pl lp hpl hlp
          split at hs
          · rename_i ps' hps
            split at hs
            · rename_i hn
              injection hs with hs
              injection hs with hs1 hs
              injection hs with hs2 hs3
              subst hs1 hs2 hs3
              refine Yd.of ho hg hd hn fun a w β r => ?_
              obtain ⟨xi, dd, z, i1, i2, i3, i4, i5, i6, i7, i8, i9⟩ := TI.info (hT _ _ hti)
              obtain ⟨g1, g2⟩ := partsP_ok r hlp
              have hz : PL.ats w (good (Mt C h β) w) ti.zero z.cells.toList := by rw [← i8]; exact zero_ats i9
              unfold places at hpl
              split at hpl
              · rename_i fl hk
                injection hpl with hpl
                obtain ⟨fs, rfl⟩ : ∃ fs, dd = .struct fs := by
                  rw [hk] at i6
                  cases dd <;> simp only [tkOf] at i6 <;> first | exact ⟨_, rfl⟩ | (split at i6 <;> cases i6; done) | cases i6
                rw [hk] at i6
                simp only [tkOf] at i6
                split at i6
                · rename_i l0 hl0
                  injection i6 with i6
                  subst i6
                  obtain ⟨cells', c1, c2⟩ := fill_ok (cells := z.cells) (vs := parts.toList.map fun x => (x.1, a.eval x.2)) hps hz g1 g2
                  have hpm : ∀ w', (fs.mapM fun f => (do pure (f.offset, ← sizeOf f.type) : Sem (Nat × Nat))).run P w' = .ok ((l0.map fun x => (x.1, x.2.1)).toArray) w' := fun w' => by
                    rw [Array.mapM_eq_mapM_toList]
                    simp only [Sem.run_map]
                    have : fs.toList.mapM (fun f => (sizeT P f.type).map fun s => (f.offset, s)) = some (l0.map fun x => (x.1, x.2.1)) := by
                      refine mapM_proj (fun x : Nat × Nat × Bool => (x.1, x.2.1)) _ _ (fun f => ?_) hl0
                      cases sizeT P f.type <;> rfl
                    rw [mapM_run _ _ (fun f y hy => ?_) this]
                    · rfl
                    · simp only [Option.map_eq_some_iff] at hy
                      obtain ⟨sz, hsz, rfl⟩ := hy
                      obtain ⟨ti', _, hti', _, e⟩ := sizeT_ok hsz
                      simp [run_size' hti', e]
                  have hfun : (fun k => (l0.map fun x => (x.1, x.2.1)).toArray[k]?) = pl := by
                    rw [← hpl]
                    funext k
                    simp
                    cases l0[k]? <;> rfl
                  have hrun : ∀ w', (execOp a.eval o).run P w' = .ok (.value (.agg cells')) w' := fun w' => by
                    simp only [execOp, hop, Instr.build, Sem.run_bind, run_zero' i1 i3, Result.andThen_ok, run_underlying' i2, hpm, Sem.run_pure]
                    rw [hfun]
                    have hparts : (parts.map fun x => (x.1, a.eval x.2)).toList = parts.toList.map fun x => (x.1, a.eval x.2) := by simp
                    rw [hparts, c1]
                    rfl
                  refine ⟨_, fun w' _ => hrun w', cells'.toList, by simp, by rw [PL.ats_length c2], fun j q u hq hu => ?_⟩
                  unfold ovAt at hq
                  split at hq
                  · rename_i x hx
                    injection hq with hq
                    subst hq
                    obtain ⟨m1, m2⟩ := lookup_filter_some hx
                    obtain ⟨k, e1, e2, e3⟩ := zeroOv_mem m1
                    rw [Nat.zero_add] at e1
                    subst e1 e3
                    have hkeep := fill_keep (pl := pl) (j := j) (l := lp) (by
                      refine vs_keys (by simpa using g1) fun m x y hx hy => ?_
                      exact (g2 m x _ hx hy).1) (by simpa using m2) c1
                    have hu' : z.cells[j]? = some u := by rw [← hkeep]; simpa using hu
                    rw [← i8, List.getElem?_map] at e2
                    have hu2 : z.cells.toList[j]? = some u := by simpa using hu'
                    rw [hu2] at e2
                    simp only [Option.map_some, Option.some.injEq] at e2
                    unfold cpl at e2
                    split at e2
                    · rfl
                    · cases e2
                  · cases hp : ps'[j]? with
                    | none => rw [hp] at hq; cases hq
                    | some p =>
                      rw [hp] at hq
                      simp at hq
                      subst hq
                      obtain ⟨u', hu', hat⟩ := PL.ats_get c2 hp
                      rw [hu] at hu'
                      injection hu' with hu'
                      subst hu'
                      exact hat
                · cases i6
              · cases hpl
            · cases hs
          · cases hs
        · cases hs
      · cases hs
    · cases hs
  · cases hs
theorem AwOps.buildN (hT : TT.ok P T) {n d : Nat} {ps : List PL} {ov : List (Nat × AL)} {s : List (Nat × AV)} {h : List (Nat × HB)} (hs : buildNV T ops i n s h = some (d, ps, ov)) (hK : AwOps P C ops l ⟨n, (d, .mix ps ov) :: s, h⟩ K) : AwOps P C ops (i :: l) ⟨n, s, h⟩ K := AwOps.yd (Yd.buildN hT hs) hK

theorem Tn.fz2 (t t' : Nat) {n b m m' ty sz : Nat} {pl : Bool} {es : List (List PL)} {s : List (Nat × AV)} {h : List (Nat × HB)} (hs : s.lookup t = some (.one (.own b m))) (hs' : s.lookup t' = some (.one (.own b m'))) (hb : h.lookup b = some (.row ty sz pl es)) (hm : m = es.length) (hm' : m' = es.length) (hlo : Nat.blt b 1000 = true) :
    Tn ⟨n, s, h⟩ ⟨n, (t, .one (.p (.sl es))) :: (t', .one (.p (.sl es))) :: s, (b, .gone) :: h⟩ := by
  rintro _ C a w ⟨β, r⟩
  replace hlo : b < 1000 := by simpa using hlo
  obtain ⟨y, hy, hv⟩ := r.slots t _ hs
  obtain ⟨y', hy', hv'⟩ := r.slots t' _ hs'
  have h1 := fz_at hlo r hb hv (Nat.le_of_eq hm)
  have h2 := fz_at hlo r hb hv' (Nat.le_of_eq hm')
  rw [hm, List.take_length] at h1
  rw [hm', List.take_length] at h2
  exact ⟨_, ((r.forget (b := b) hlo).same (A := .one (.p (.sl es))) hy' h2).same (A := .one (.p (.sl es))) hy h1⟩
end Go.Proofs.YtbdgmondalkhlaaDoor.Aw
