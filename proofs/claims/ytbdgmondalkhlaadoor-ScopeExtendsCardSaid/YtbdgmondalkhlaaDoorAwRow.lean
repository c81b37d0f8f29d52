
/- Rows of one's own: literals, append, what is read of them.
   Conditions: none; generic in the program. -/
import Derived.Test.YtbdgmondalkhlaaDoorAwCall
import Derived.Maps.AppendAt
namespace Go.Proofs.YtbdgmondalkhlaaDoor.Aw
open Go

variable {P : Program} {C : Ctx P} {T : TT} {σ : AS} {a : Act} {w w1 : World} {β β1 : Map} {ops : Array Oper} {i : Nat} {l : List Nat} {K : AS → Prop} {F : Nat → Prop}

/-! ### 1. Lists -/
theorem ats_append : ∀ {ps qs : List PL} {ys zs : List Value}, PL.ats w F ps ys → PL.ats w F qs zs → PL.ats w F (ps ++ qs) (ys ++ zs)
  | [], _, [], _, _, h => by simpa using h
  | [], _, _ :: _, _, h, _ => by simp [PL.ats] at h
  | _ :: _, _, [], _, h, _ => by simp [PL.ats] at h
  | p :: ps, qs, y :: ys, zs, h, h' => by
    rw [PL.ats] at h
    rw [List.cons_append, List.cons_append, PL.ats]
    exact ⟨h.1, ats_append h.2 h'⟩
theorem ats_take {ps : List PL} {ys : List Value} (h : PL.ats w F ps ys) (n : Nat) : PL.ats w F (ps.take n) (ys.take n) := by simpa using ats_slice h 0 n
theorem ats_drop {ps : List PL} {ys : List Value} (h : PL.ats w F ps ys) (n : Nat) : PL.ats w F (ps.drop n) (ys.drop n) := by
  have := ats_slice h n ps.length
  have hl := PL.ats_length h
  rwa [List.take_of_length_le (by simp), List.take_of_length_le (by simp; omega)] at this
theorem ats_leaf : ∀ {ps : List PL} {ys : List Value}, PL.ats w F ps ys → ∀ u ∈ ys, leaf u = true
  | [], [], _, u, hu => by simp at hu
  | [], _ :: _, h, _, _ => by simp [PL.ats] at h
  | _ :: _, [], h, _, _ => by simp [PL.ats] at h
  | p :: ps, y :: ys, h, u, hu => by
    rw [PL.ats] at h
    rcases List.mem_cons.1 hu with e | e
    · rw [e]; exact PL.at_leaf h.1
    · exact ats_leaf h.2 u e
theorem flatten_len : ∀ {es : List (List PL)} {sz : Nat}, (∀ e ∈ es, e.length = sz) → es.flatten.length = es.length * sz
  | [], sz, _ => by simp
  | e :: es, sz, h => by
    rw [List.flatten_cons, List.length_append, flatten_len fun x hx => h x (List.mem_cons_of_mem _ hx), h e List.mem_cons_self, List.length_cons, Nat.add_mul]
    omega
theorem flatten_slice : ∀ {es : List (List PL)} {sz i : Nat} {e : List PL}, (∀ e ∈ es, e.length = sz) → es[i]? = some e → (es.flatten.drop (i * sz)).take sz = e
  | [], _, i, e, _, h => by simp at h
  | x :: es, sz, 0, e, h, he => by
    simp at he
    subst he
    simp [h x List.mem_cons_self]
  | x :: es, sz, i + 1, e, h, he => by
    have hx := h x List.mem_cons_self
    rw [List.flatten_cons, Nat.add_mul, Nat.one_mul, Nat.add_comm, ← hx, ← List.drop_drop, List.drop_left, hx]
    exact flatten_slice (fun y hy => h y (List.mem_cons_of_mem _ hy)) (by simpa using he)

/-! ### 2. The cells of a pure value -/
def pcells : AV → Option (List PL)
  | .one (.p q) => some [q]
  | .agg ps => some ps
  | _ => none
theorem pcells_ok {M : Nat → Prop} {A : AV} {ps : List PL} {y : Value} (h : pcells A = some ps) (hv : AVs M β w A y) : PL.ats w (good M w) ps y.cells.toList := by
  unfold pcells at h
  split at h
  · rename_i q
    injection h with h
    subst h
    have hl : leaf y = true := PL.at_leaf hv
    have hc : y.cells = #[y] := by cases y <;> first | rfl | (simp [leaf] at hl; done)
    rw [hc]
    exact ⟨hv, trivial⟩
  · rename_i qs
    injection h with h
    subst h
    obtain ⟨ys, rfl, hats⟩ := hv
    simpa [Value.cells] using hats
  · cases h

/-! ### 3. Filling -/
theorem foldset (off : Nat) : ∀ (vc : List Value) (j : Nat) (cells : Array Value), off + j + vc.length ≤ cells.size →
    ((vc.zipIdx j).foldl (fun cs (x : Value × Nat) => cs.setIfInBounds (off + x.2) x.1) cells).toList = cells.toList.take (off + j) ++ vc ++ cells.toList.drop (off + j + vc.length)
  | [], j, cells, h => by simp
  | v :: vc, j, cells, h => by
    simp only [List.zipIdx_cons, List.foldl_cons]
    rw [foldset off vc (j + 1) _ (by simp at h ⊢; omega)]
    simp only [Array.toList_setIfInBounds, List.length_cons]
    have hlt : off + j < cells.toList.length := by simp at h ⊢; omega
    have e1 : (cells.toList.set (off + j) v).take (off + (j + 1)) = cells.toList.take (off + j) ++ [v] := by
      rw [← Nat.add_assoc, List.take_succ_eq_append_getElem (by simpa using hlt), List.take_set_of_le (Nat.le_refl _)]
      simp
    have e2 : (cells.toList.set (off + j) v).drop (off + (j + 1) + vc.length) = cells.toList.drop (off + j + (vc.length + 1)) := by
      rw [List.drop_set_of_lt (by omega)]
      congr 1
      omega
    rw [e1, e2]
    simp

/-- What a part makes of the cells. -/
def splice {α : Type} (xs : List α) (off : Nat) (ys : List α) : List α := xs.take off ++ ys ++ xs.drop (off + ys.length)
theorem splice_len {α : Type} {xs ys : List α} {off : Nat} (h : off + ys.length ≤ xs.length) : (splice xs off ys).length = xs.length := by
  simp [splice]
  omega
theorem ats_splice {ps qs : List PL} {ys zs : List Value} {off : Nat} (h : PL.ats w F ps ys) (h' : PL.ats w F qs zs) : PL.ats w F (splice ps off qs) (splice ys off zs) := by
  unfold splice
  rw [PL.ats_length h']
  exact ats_append (ats_append (ats_take h off) h') (ats_drop h _)

/-- Parts, as pure data: where each goes, its cells. -/
def fillP (place : Nat → Option (Nat × Nat)) (ps : List PL) : List (Nat × List PL) → Option (List PL)
  | [] => some ps
  | (i, qs) :: r => match place i with
    | some (off, sz) => if qs.length = sz ∧ off + sz ≤ ps.length then fillP place (splice ps off qs) r else none
    | none => none
theorem fill_ok {place : Nat → Option (Nat × Nat)} : ∀ {parts : List (Nat × List PL)} {vs : List (Nat × Value)} {ps ps' : List PL} {cells : Array Value}, fillP place ps parts = some ps' → PL.ats w F ps cells.toList →
    vs.length = parts.length → (∀ (j : Nat) (x : Nat × List PL) (y : Nat × Value), parts[j]? = some x → vs[j]? = some y → y.1 = x.1 ∧ PL.ats w F x.2 y.2.cells.toList) →
    ∃ cells', Instr.fill place cells vs = some cells' ∧ PL.ats w F ps' cells'.toList
  | [], [], ps, ps', cells, h, hat, _, _ => by
    injection h with h
    subst h
    exact ⟨cells, rfl, hat⟩
  | [], _ :: _, _, _, _, _, _, e, _ => by simp at e
  | _ :: _, [], _, _, _, _, _, e, _ => by simp at e
  | (k, qs) :: r, (k', v) :: vs, ps, ps', cells, h, hat, e, hj => by
    obtain ⟨e1, e2⟩ := hj 0 (k, qs) (k', v) rfl rfl
    simp only at e1 e2
    subst e1
    unfold fillP at h
    split at h
    · rename_i off sz hp
      split at h
      · rename_i hc
        have hl := PL.ats_length hat
        have hq := PL.ats_length e2
        simp only [Array.length_toList] at hl hq
        obtain ⟨cells', g1, g2⟩ := fill_ok (cells := (v.cells.zipIdx.foldl (fun cs (x : Value × Nat) => cs.setIfInBounds (off + x.2) x.1) cells)) (vs := vs) h (by
          have : (v.cells.zipIdx.foldl (fun cs (x : Value × Nat) => cs.setIfInBounds (off + x.2) x.1) cells).toList = splice cells.toList off v.cells.toList := by
            rw [← Array.foldl_toList, Array.toList_zipIdx, foldset off v.cells.toList 0 cells (by simp; omega)]
            rfl
          rw [this]
          exact ats_splice hat e2) (by simpa using e) (fun j x y hx hy => hj (j + 1) x y (by simpa using hx) (by simpa using hy))
        refine ⟨cells', ?_, g2⟩
        simp only [Instr.fill, hp]
        rw [if_neg (by simp; omega)]
        exact g1
      · cases h
    · cases h

def partsP (σ : AS) : List (Nat × Operand) → Option (List (Nat × List PL))
  | [] => some []
  | (k, x) :: r => match evF σ x, partsP σ r with
    | some A, some l => match pcells A with
      | some ps => some ((k, ps) :: l)
      | none => none
    | _, _ => none
theorem partsP_ok (r : Rel C σ a w β) : ∀ {xs : List (Nat × Operand)} {l : List (Nat × List PL)}, partsP σ xs = some l →
    (xs.map fun x => (x.1, a.eval x.2)).length = l.length ∧ ∀ (j : Nat) (x : Nat × List PL) (y : Nat × Value), l[j]? = some x → (xs.map fun x => (x.1, a.eval x.2))[j]? = some y → y.1 = x.1 ∧ PL.ats w (good (Mt C σ.h β) w) x.2 y.2.cells.toList
  | [], l, h => by
    injection h with h
    subst h
    exact ⟨rfl, fun j x y hx => by simp at hx⟩
  | (k, x) :: xs, l, h => by
    unfold partsP at h
    split at h
    · rename_i A l' hA hl
      split at h
      · rename_i ps hp
        injection h with h
        subst h
        obtain ⟨g1, g2⟩ := partsP_ok r hl
        refine ⟨by simpa using g1, fun j z y hz hy => ?_⟩
        cases j with
        | zero =>
          simp at hz hy
          subst hz hy
          exact ⟨rfl, pcells_ok hp (r.evF hA)⟩
        | succ j => exact g2 j z y (by simpa using hz) (by simpa using hy)
      · cases h
    · cases h


/-! ### 4. A struct is built -/
def places (i : TI) : Option (Nat → Option (Nat × Nat)) := match i.kd with
  | .sct fs => some fun k => match fs[k]? with
    | some (off, sz, _) => some (off, sz)
    | none => none
  | _ => none
theorem mapM_run {α γ : Type} (f : α → Option γ) (g : α → Sem γ) (hg : ∀ x y, f x = some y → (g x).run P w = .ok y w) : ∀ {l : List α} {r : List γ}, l.mapM f = some r → (l.mapM g).run P w = .ok r w
  | [], r, h => by
    simp at h
    subst h
    simp
  | x :: l, r, h => by
    rw [List.mapM_cons] at h
    simp only [Option.bind_eq_bind, Option.bind_eq_some_iff] at h
    obtain ⟨z, hz, r', hr', e⟩ := h
    simp at e
    subst e
    rw [List.mapM_cons]
    simp only [Sem.run_bind, hg x z hz, Result.andThen_ok, mapM_run f g hg hr', Sem.run_pure]

theorem mapM_proj {α γ δ : Type} (k : γ → δ) (f : α → Option γ) (f' : α → Option δ) (hf : ∀ x, f' x = (f x).map k) : ∀ {l : List α} {r : List γ}, l.mapM f = some r → l.mapM f' = some (r.map k)
  | [], r, h => by
    simp at h
    subst h
    rfl
  | x :: l, r, h => by
    rw [List.mapM_cons] at h
    simp only [Option.bind_eq_bind, Option.bind_eq_some_iff] at h
    obtain ⟨z, hz, r', hr', e⟩ := h
    simp at e
    subst e
    rw [List.mapM_cons, hf, hz, mapM_proj k f f' hf hr']
    rfl

def buildV (T : TT) (ops : Array Oper) (i n : Nat) (s : List (Nat × AV)) (h : List (Nat × HB)) : Option (Nat × List PL) := match ops[i]? with
  | some o => match gd ops ⟨n, s, h⟩ o, o.op, o.dst with
    | some true, .build t parts, some d => match T.lookup t with
      | some ti => match places ti, partsP ⟨n, s, h⟩ parts.toList with
        | some pl, some l => match fillP pl ti.zero l with
          | some ps => if d < n then some (d, ps) else none
          | none => none
        | _, _ => none
      | none => none
    | _, _, _ => none
  | none => none

theorem Yd.build (hT : TT.ok P T) {N : List Nat} {n d : Nat} {s : List (Nat × AV)} {h : List (Nat × HB)} {ps : List PL} (hs : buildV T ops i n s h = some (d, ps)) : Yd P C ops N i ⟨n, s, h⟩ d (.agg ps) := by
  unfold buildV at hs
  split at hs
  · rename_i o ho
    split at hs
    · rename_i t parts d' hg hop hd
      split at hs
      · rename_i ti hti
        split at hs
        · rename_i pl lp hpl hlp
          split at hs
          · rename_i ps' hps
            split at hs
            · rename_i hn
              injection hs with hs
              injection hs with hs1 hs2
              subst hs1 hs2
              refine Yd.of ho hg hd hn fun a w β r => ?_
              obtain ⟨xi, dd, z, i1, i2, i3, i4, i5, i6, i7, i8, i9⟩ := TI.info (hT _ _ hti)
              obtain ⟨g1, g2⟩ := partsP_ok r hlp
              have hz : PL.ats w (good (Mt C h β) w) ti.zero z.cells.toList := by rw [← i8]; exact zero_ats i9
              unfold places at hpl
              split at hpl
              · rename_i fl hk
                injection hpl with hpl
                obtain ⟨fs, rfl⟩ : ∃ fs, dd = .struct fs := by
                  rw [hk] at i6
                  cases dd <;> simp only [tkOf] at i6 <;> first | exact ⟨_, rfl⟩ | (split at i6 <;> cases i6; done) | cases i6
                rw [hk] at i6
                simp only [tkOf] at i6
                split at i6
                · rename_i l0 hl0
                  injection i6 with i6
                  subst i6
                  obtain ⟨cells', c1, c2⟩ := fill_ok (cells := z.cells) (vs := parts.toList.map fun x => (x.1, a.eval x.2)) hps hz g1 g2
                  have hpm : ∀ w', (fs.mapM fun f => (do pure (f.offset, ← sizeOf f.type) : Sem (Nat × Nat))).run P w' = .ok ((l0.map fun x => (x.1, x.2.1)).toArray) w' := fun w' => by
                    rw [Array.mapM_eq_mapM_toList]
                    simp only [Sem.run_map]
                    have : fs.toList.mapM (fun f => (sizeT P f.type).map fun s => (f.offset, s)) = some (l0.map fun x => (x.1, x.2.1)) := by
                      refine mapM_proj (fun x : Nat × Nat × Bool => (x.1, x.2.1)) _ _ (fun f => ?_) hl0
                      cases sizeT P f.type <;> rfl
                    rw [mapM_run _ _ (fun f y hy => ?_) this]
                    · rfl
                    · simp only [Option.map_eq_some_iff] at hy
                      obtain ⟨sz, hsz, rfl⟩ := hy
                      obtain ⟨ti', _, hti', _, e⟩ := sizeT_ok hsz
                      simp [run_size' hti', e]
                  have hfun : (fun k => (l0.map fun x => (x.1, x.2.1)).toArray[k]?) = pl := by
                    rw [← hpl]
                    funext k
                    simp
                    cases l0[k]? <;> rfl
                  have hrun : ∀ w', (execOp a.eval o).run P w' = .ok (.value (.agg cells')) w' := fun w' => by
                    simp only [execOp, hop, Instr.build, Sem.run_bind, run_zero' i1 i3, Result.andThen_ok, run_underlying' i2, hpm, Sem.run_pure]
                    rw [hfun]
                    have hparts : (parts.map fun x => (x.1, a.eval x.2)).toList = parts.toList.map fun x => (x.1, a.eval x.2) := by simp
                    rw [hparts, c1]
                    rfl
                  exact ⟨_, fun w' _ => hrun w', cells'.toList, by simp, c2⟩
                · cases i6
              · cases hpl
            · cases hs
          · cases hs
        · cases hs
      · cases hs
    · cases hs
  · cases hs
theorem AwOps.build (hT : TT.ok P T) {n d : Nat} {s : List (Nat × AV)} {h : List (Nat × HB)} {ps : List PL} (hs : buildV T ops i n s h = some (d, ps)) (hK : AwOps P C ops l ⟨n, (d, .agg ps) :: s, h⟩ K) : AwOps P C ops (i :: l) ⟨n, s, h⟩ K := AwOps.yd (Yd.build hT hs) hK

/-! ### 5. A slice is built -/
def rowsOf : Nat → Nat → List (Nat × List PL) → Option (List (List PL))
  | _, _, [] => some []
  | k, sz, (j, ps) :: r => if j = k ∧ ps.length = sz then (match rowsOf (k + 1) sz r with
    | some l => some (ps :: l)
    | none => none) else none
theorem rowsOf_ok : ∀ {parts : List (Nat × List PL)} {k sz : Nat} {es : List (List PL)}, rowsOf k sz parts = some es → es.length = parts.length ∧ (∀ e ∈ es, e.length = sz) ∧
    ∀ (ps : List PL), (k + parts.length) * sz = ps.length → fillP (fun i => some (i * sz, sz)) ps parts = some (ps.take (k * sz) ++ es.flatten)
  | [], k, sz, es, h => by
    injection h with h
    subst h
    refine ⟨rfl, by simp, fun ps hl => ?_⟩
    simp only [fillP]
    rw [List.take_of_length_le (by simp at hl; omega)]
    simp
  | (j, qs) :: r, k, sz, es, h => by
    unfold rowsOf at h
    split at h
    · rename_i hc
      obtain ⟨rfl, hq⟩ := hc
      split at h
      · rename_i l hl
        injection h with h
        subst h
        obtain ⟨g1, g2, g3⟩ := rowsOf_ok hl
        refine ⟨by simp [g1], fun e he => ?_, fun ps hps => ?_⟩
        · rcases List.mem_cons.1 he with e' | e'
          · rw [e']; exact hq
          · exact g2 e e'
        · have hle : j * sz + sz ≤ ps.length := by
            rw [← hps]
            simp only [List.length_cons]
            have : (j + (r.length + 1)) * sz = j * sz + sz + r.length * sz := by simp only [Nat.add_mul, Nat.one_mul]; omega
            omega
          have hqle : j * sz + qs.length ≤ ps.length := by omega
          unfold fillP
          simp only
          rw [if_pos ⟨hq, hle⟩, g3 (splice ps (j * sz) qs) (by rw [splice_len hqle, ← hps]; simp only [List.length_cons]; congr 1; omega)]
          congr 1
          rw [List.flatten_cons, ← List.append_assoc]
          congr 1
          unfold splice
          rw [Nat.add_mul, Nat.one_mul, List.take_append_of_le_length (by simp; omega)]
          rw [List.take_of_length_le (by simp; omega)]
      · cases h
    · cases h

def litV (T : TT) (ops : Array Oper) (i n : Nat) (s : List (Nat × AV)) (h : List (Nat × HB)) : Option (Nat × Nat × Nat × List (List PL)) := match ops[i]? with
  | some o => match gd ops ⟨n, s, h⟩ o, o.op, o.dst with
    | some true, .buildSlice t len parts, some d => match T.lookup t with
      | some ti => match ti.kd with
        | .sli e sz _ => match T.lookup e, partsP ⟨n, s, h⟩ parts.toList with
          | some te, some l => match rowsOf 0 sz l with
            | some es => if d < n ∧ d < 1000 ∧ AS.no d ⟨n, s, h⟩ = true ∧ len = es.length ∧ 0 < sz ∧ len * sz ≤ 16777216 ∧ te.zero.length = sz then some (d, e, sz, es) else none
            | none => none
          | _, _ => none
        | _ => none
      | none => none
    | _, _, _ => none
  | none => none

theorem good_live {h : List (Nat × HB)} {d g c : Nat} {x : HB} (hst : St (fun _ => False) w w1) (hg : w.heap.size ≤ g) : ∀ k, good (Mt C h β) w k → good (Mt C ((d, x) :: h) (upd β d (.here g c))) w1 k ∧ w1.heap[k]? = w.heap[k]? := by
  intro k hk
  refine ⟨⟨Nat.lt_of_lt_of_le hk.1 hst.size, fun hm => hk.2 ?_⟩, hst.same k hk.1 (fun h => h)⟩
  rcases hm with hm | ⟨b, x', cap, hb, hl⟩
  · exact .inl hm
  · by_cases e : b = d
    · subst e
      rw [upd_self] at hl
      injection hl with hl
      have := hk.1
      omega
    · rw [lookup_cons_ne _ _ e] at hb
      rw [upd_ne _ _ e] at hl
      exact .inr ⟨b, x', cap, hb, hl⟩

theorem Ed.lit (hT : TT.ok P T) {N : List Nat} {n d e sz : Nat} {s : List (Nat × AV)} {h : List (Nat × HB)} {es : List (List PL)} (hs : litV T ops i n s h = some (d, e, sz, es)) (hK : K ⟨n, (d, .one (.own d es.length)) :: s, (d, .row e sz true es) :: h⟩) :
    Ed P C ops N i ⟨n, s, h⟩ K := by
  unfold litV at hs
  split at hs
  · rename_i o ho
    split at hs
    · rename_i t len parts d' hg hop hd
      split at hs
      · rename_i ti hti
        split at hs
        · rename_i e' sz' ag hk
          split at hs
          · rename_i te lp hte hlp
            split at hs
            · rename_i es' hes
              split at hs
              · rename_i hc
                obtain ⟨hn, hlo, hno, hlen, hsz, hbig, hz0⟩ := hc
                injection hs with hs
                injection hs with hs1 hs
                injection hs with hs2 hs
                injection hs with hs3 hs4
                subst hs1 hs2 hs3 hs4
                refine Ed.of ho hg fun a w β r _ => ?_
                obtain ⟨xi, dd, z, i1, i2, i3, i4, i5, i6, i7, i8, i9⟩ := TI.info (hT _ _ hti)
                obtain ⟨ye, de, ze, j1, j2, j3, j4, j5, j6, j7, j8, j9⟩ := TI.info (hT _ _ hte)
                obtain ⟨g1, g2⟩ := partsP_ok r hlp
                obtain ⟨q1, q2, q3⟩ := rowsOf_ok hes
                have hdd : dd = .slice e' ∧ sizeT P e' = some sz' := by
                  rw [hk] at i6
                  cases dd <;> simp only [tkOf] at i6 <;> first | cases i6; done | skip
                  all_goals first | (split at i6 <;> first | (cases i6; done) | (rename_i hs'; injection i6 with a1 a2; subst a1 a2; exact ⟨rfl, hs'⟩)) | cases i6
                obtain ⟨rfl, hsz'⟩ := hdd
                obtain ⟨yi, dj, k1, k2, k3⟩ := sizeT_ok hsz'
                have hzc : ze.cells.size = sz' := by rw [← hz0, ← j8]; simp
                let init : Array Value := (Array.range (len * sz')).map (ze.cells[· % ze.cells.size]!)
                have hinit : PL.ats w (good (Mt C h β) w) (init.toList.map cpl) init.toList := by
                  refine PL.ats_mk (by simp) fun j p y hp hy => ?_
                  rw [List.getElem?_map, hy] at hp
                  simp at hp
                  subst hp
                  refine cpl_at w _ ?_
                  have hj : j < len * sz' := by have := getElem?_prop hy; simpa [init] using this
                  have hm : j % ze.cells.size < ze.cells.size := Nat.mod_lt _ (by omega)
                  have : y = ze.cells[j % ze.cells.size] := by
                    simp [init, hj] at hy
                    rw [← hy]
                    simp [hm]
                  rw [this]
                  exact List.all_eq_true.1 j9 _ (by simp)
                have hfill := q3 (init.toList.map cpl) (by simp [init, hlen, q1])
                simp only [Nat.zero_mul, List.take_zero, List.nil_append] at hfill
                obtain ⟨cells', c1, c2⟩ := fill_ok (vs := parts.toList.map fun x => (x.1, a.eval x.2)) hfill hinit g1 g2
                have hlc : cells'.size = len * sz' := by
                  have := PL.ats_length c2
                  rw [flatten_len q2] at this
                  simp at this
                  rw [this, hlen]
                have hst : ∀ M, St M w { w with heap := w.heap.push (.cells cells' e') } := fun M => St.push M w _
                have hrun : (execOp a.eval o).run P w = .ok (.value (.slice (some ⟨w.heap.size, 0, none⟩) len len)) { w with heap := w.heap.push (.cells cells' e') } := by
                  have hparts : (parts.map fun x => (x.1, a.eval x.2)).toList = parts.toList.map fun x => (x.1, a.eval x.2) := by simp
                  have hb : ¬ (len * sz' > 2 ^ 24) := by omega
                  simp only [execOp, hop, Instr.buildSlice, Sem.run_bind, run_underlying' i2, Result.andThen_ok, run_size' k1, k3]
                  rw [if_neg hb]
                  simp only [Sem.run_bind, Sem.run_pure, Result.andThen_ok]
                  by_cases h0 : len * sz' = 0
                  · have hl0 : len = 0 := by
                      rcases Nat.mul_eq_zero.1 h0 with h | h
                      · exact h
                      · omega
                    subst hl0
                    have hp0 : parts = #[] := by
                      have : parts.toList.length = 0 := by
                        have := g1
                        simp at this
                        rw [← q1, ← hlen] at this
                        simpa using this
                      apply Array.ext'
                      simpa using this
                    have hc0 : cells' = #[] := by
                      apply Array.eq_empty_of_size_eq_zero
                      rw [hlc]; simp
                    subst hp0 hc0
                    have hz : ∀ f : Nat → Value, (Array.range 0).map f = #[] := fun f => Array.eq_empty_of_size_eq_zero (by simp)
                    simp [Instr.fill, newRow, newObj, Sem.run, hz]
                  · simp only [h0, if_false, Sem.run_bind, run_zero' j1 j3, Result.andThen_ok, Sem.run_pure]
                    rw [hparts, c1]
                    simp [newRow, newObj, Sem.run]
                have r1 := r.new (d := d') (g := w.heap.size) (c := len) (x := .row e' sz' true es') hno hlo (hst _) (Nat.le_refl _) (by simp) (by
                  refine ⟨cells', (0, 0), by simp, fun _ => rfl, hlc, by omega, ?_, fun j _ => by simp, hsz, q2, ?_⟩
                  · have : len ≤ len * sz' := Nat.le_mul_of_pos_right _ hsz
                    simp only [maxLen]; omega
                  · rw [List.take_of_length_le (by rw [← hlen]; simp [hlc])]
                    exact PL.ats_move (good_live (hst _) (Nat.le_refl _)) _ c2)
                simp only [Oper.wp, hrun, Oper.upon_value, hd]
                refine ⟨_, _, hK, r1.put hn ?_, Mv.new (hst _) (Nat.le_refl _)⟩
                simp only [AVs, AV.rep, AL.rep, upd_self]
                exact ⟨by rw [hlen], by omega⟩
              · cases hs
            · cases hs
          · cases hs
        · cases hs
      · cases hs
    · cases hs
  · cases hs

theorem AwOps.lit (hT : TT.ok P T) {n d e sz : Nat} {s : List (Nat × AV)} {h : List (Nat × HB)} {es : List (List PL)} (hs : litV T ops i n s h = some (d, e, sz, es)) (hK : AwOps P C ops l ⟨n, (d, .one (.own d es.length)) :: s, (d, .row e sz true es) :: h⟩ K) :
    AwOps P C ops (i :: l) ⟨n, s, h⟩ K := AwOps.ed (N := []) (Ed.lit hT hs hK)

/-! ### 6. Append -/
theorem leaf_one {u : Value} (h : leaf u = true) : u.oneCell' = true := by cases u <;> first | rfl | (simp [leaf] at h; done)

/-- What an operand of append brings: rows of pure cells, read at this very world. -/
def rowV (h : List (Nat × HB)) : AV → Option (Nat × List (List PL))
  | .one (.p (.sl es)) => some (es.length, es)
  | .one .nil => some (0, [])
  | .one (.own b n) => match h.lookup b with
    | some (.row _ _ _ es) => some (n, es)
    | _ => none
  | _ => none
theorem rows_flat {A : Option Addr} {sz : Nat} : ∀ {es : List (List PL)} {b : Nat}, PL.rows w F A sz b es → (∀ e ∈ es, e.length = sz) ∧ ∃ ys : List Value, PL.ats w F es.flatten ys ∧ ∀ (j : Nat) (u : Value), ys[j]? = some u → ∃ ad, A = some ad ∧ w.cell? (ad.add (b * sz + j)) = some u
  | [], b, _ => ⟨by simp, [], by simp [PL.ats], fun j u hu => by simp at hu⟩
  | e :: es, b, h => by
    rw [PL.rows] at h
    obtain ⟨⟨h1, ad, ys, h2, h3, h4, h5⟩, h6⟩ := h
    obtain ⟨g1, zs, g2, g3⟩ := rows_flat h6
    refine ⟨fun x hx => ?_, ys ++ zs, ats_append h4 g2, fun j u hu => ?_⟩
    · rcases List.mem_cons.1 hx with e' | e'
      · rw [e']; exact h1
      · exact g1 x e'
    · have hyl : ys.length = sz := by rw [PL.ats_length h4, h1]
      by_cases hj : j < ys.length
      · rw [List.getElem?_append_left hj] at hu
        exact ⟨ad, h2, h5 j u hu⟩
      · rw [List.getElem?_append_right (by omega)] at hu
        obtain ⟨ad', k1, k2⟩ := g3 _ u hu
        refine ⟨ad', k1, ?_⟩
        have : (b + 1) * sz + (j - ys.length) = b * sz + j := by rw [Nat.add_mul, Nat.one_mul]; omega
        rwa [this] at k2

/-- The row that an operand is, as the model reads it. -/
theorem rowV_ok (r : Rel C σ a w β) {A : AV} {es : List (List PL)} {sz : Nat} {m : Nat} (hr : rowV σ.h A = some (m, es)) (hm : m = es.length) (hsz : ∀ e ∈ es, e.length = sz) {y : Value} (hv : AVs (Mt C σ.h β) β w A y) (hrow : ∀ b n ty s pl es', A = .one (.own b n) → σ.h.lookup b = some (.row ty s pl es') → s = sz) :
    ∃ ad c, y = .slice ad es.length c ∧ ∃ ys : List Value, ys.length = es.length * sz ∧ (∀ u ∈ ys, leaf u = true) ∧ (∀ (j : Nat) (u : Value), ys[j]? = some u → ∃ a', ad = some a' ∧ w.cell? (a'.add j) = some u) ∧ PL.ats w (good (Mt C σ.h β) w) es.flatten ys := by
  unfold rowV at hr
  split at hr
  · rename_i es'
    injection hr with hr
    injection hr with hr0 hr
    subst hr
    obtain ⟨ad, c, sz', hy, hc, hrows⟩ := hv
    obtain ⟨g1, ys, g2, g3⟩ := rows_flat hrows
    refine ⟨ad, c, hy, ys, ?_, ats_leaf g2, fun j u hu => ?_, g2⟩
    · rw [PL.ats_length g2, flatten_len hsz]
    · obtain ⟨a', k1, k2⟩ := g3 j u hu
      exact ⟨a', k1, by simpa using k2⟩
  · injection hr with hr
    injection hr with hr0 hr
    subst hr
    exact ⟨none, 0, hv, [], by simp, by simp, fun j u hu => by simp at hu, by simp [PL.ats]⟩
  · rename_i b n
    split at hr
    · rename_i ty s pl es' hb
      · have hn := hm
        injection hr with hr
        injection hr with hr0 hr
        subst hr hr0
        have hs := hrow b n ty s pl es' rfl hb
        subst hs
        have hok := r.heap b _ hb
        simp only [AVs, AV.rep, AL.rep] at hv
        cases hl : β b with
        | dead => rw [hl] at hok; exact hok.elim
        | nil =>
          rw [hl] at hok hv
          obtain ⟨rfl, _⟩ := hok
          refine ⟨none, 0, by rw [hv.1]; rfl, [], by simp, by simp, fun j u hu => by simp at hu, by simp [PL.ats]⟩
        | here g c =>
          rw [hl] at hok hv
          obtain ⟨arr, fz, h1, h2, h3, h4, h5, h6, h7, h8, h9⟩ := hok
          have hle : es'.length * s ≤ arr.size := by rw [h3]; exact Nat.mul_le_mul_right _ h4
          refine ⟨some ⟨g, 0, none⟩, c, by rw [hv.1, hn], arr.toList.take (es'.length * s), by simp; omega, ats_leaf h9, fun j u hu => ?_, h9⟩
          have hj : j < es'.length * s := by
            have := getElem?_prop hu
            simp at this
            omega
          rw [List.getElem?_take_of_lt hj] at hu
          refine ⟨_, rfl, ?_⟩
          rw [add_at, Nat.zero_add]
          simp only [World.cell?, h1]
          simpa using hu
    · cases hr
  · cases hr

end Go.Proofs.YtbdgmondalkhlaaDoor.Aw
