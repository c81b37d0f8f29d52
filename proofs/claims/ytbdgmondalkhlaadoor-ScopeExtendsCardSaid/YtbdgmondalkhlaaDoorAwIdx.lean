
/- Turns of abstract states; elements of rows; bytes of strings.
   Conditions: none; generic in the program. -/
import Derived.Test.YtbdgmondalkhlaaDoorAwApp
namespace Go.Proofs.YtbdgmondalkhlaaDoor.Aw
open Go

variable {P : Program} {C : Ctx P} {T : TT} {σ τ : AS} {a : Act} {w w1 : World} {β β1 : Map} {ops : Array Oper} {i : Nat} {l : List Nat} {K : AS → Prop} {F : Nat → Prop}

/-! ### 1. Turns: the same frame and world, told otherwise -/
def Tn (σ τ : AS) : Prop := ∀ (P : Program) (C : Ctx P) a w, RelE C σ a w → RelE C τ a w
theorem Tn.refl (σ : AS) : Tn σ σ := fun _ _ _ _ h => h
theorem Tn.trans {υ : AS} (h : Tn σ τ) (k : Tn τ υ) : Tn σ υ := fun P C a w r => k P C a w (h P C a w r)
theorem Less.tn (h : Less σ τ) : Tn σ τ := fun _ _ _ _ r => h.rel r
theorem AwOps.turn (h : Tn σ τ) (k : AwOps P C ops l τ K) : AwOps P C ops l σ K := fun a w r Q hQ => k a w (h P C a w r) Q hQ
theorem Aw.turn {c : Code} {Q : Exit → AS → Prop} (h : Tn σ τ) (k : Aw P C c τ Q) : Aw P C c σ Q := fun a w r => k a w (h P C a w r)

/-- A loop: st says what stands at a round's head, by an index that an order makes fall. -/
theorem Aw.loopT {ι : Type} {c : Code} {Q : Exit → AS → Prop} (st : ι → AS) (ok : ι → Prop) (μ : ι → Nat) (i0 : ι) (h0 : Tn σ (st i0)) (hok : ok i0)
    (hr : ∀ i, ok i → Aw P C c (st i) (thn (fun σ' => ∃ i', ok i' ∧ μ i' < μ i ∧ Tn σ' (st i')) Q)) : Aw P C (.loop c) σ Q := by
  intro a w hrel b k cs
  have key : ∀ n i a w, μ i = n → ok i → RelE C (st i) a w →
      ∃ e a' w', (∃ σ', Q e σ' ∧ RelE C σ' a' w') ∧ Arrives P (lone (b.at a (.code c :: .inLoop c :: k)) cs w) b k cs e a' w' := by
    intro n
    induction n using Nat.strongRecOn with
    | _ n ih =>
      intro i a w hn hi hra
      obtain ⟨e, a1, w1, ⟨σ', hq, hrel'⟩, harr⟩ := hr i hi a w hra b (.inLoop c :: k) cs
      cases e with
      | normal =>
        obtain ⟨i', hi', hlt, hle⟩ := hq
        obtain ⟨e2, a2, w2, hq2, harr2⟩ := ih (μ i') (hn ▸ hlt) i' a1 w1 rfl hi' (hle P C a1 w1 hrel')
        exact ⟨e2, a2, w2, hq2, .of_steps (Steps.trans harr (.one step_inLoop)) harr2⟩
      | exit id => exact ⟨_, a1, w1, ⟨σ', hq, hrel'⟩, .pass (x := .inLoop c) rfl (fun _ _ => .inl (by simp)) harr⟩
      | goto l => exact ⟨_, a1, w1, ⟨σ', hq, hrel'⟩, .pass (x := .inLoop c) rfl (fun _ _ => .inl (by simp)) harr⟩
      | ret => exact ⟨_, a1, w1, ⟨σ', hq, hrel'⟩, .pass (x := .inLoop c) rfl (fun _ _ => .inl (by simp)) harr⟩
      | panic ch => exact ⟨_, a1, w1, ⟨σ', hq, hrel'⟩, .pass (x := .inLoop c) rfl (fun _ _ => .inl (by simp)) harr⟩
      | outgrown => exact ⟨_, a1, w1, ⟨σ', hq, hrel'⟩, .pass (x := .inLoop c) rfl (fun _ _ => .inl (by simp)) harr⟩
  obtain ⟨e, a', w', hq, harr⟩ := key _ i0 a w rfl hok (h0 P C a w hrel)
  exact ⟨e, a', w', hq, .of_steps (.one step_loop) harr⟩

/-- What is told of a Bool that is known both ways, behind a test. -/
theorem Aw.test {t : Tmp} {x y : Code} {b : Bool} {n : Nat} {s : List (Nat × AV)} {h : List (Nat × HB)} {Q : Exit → AS → Prop} (hs : s.lookup t = some (.one (.p (.v (.bool b)))))
    (ht : b = true → Aw P C x ⟨n, s, h⟩ Q) (hf : b = false → Aw P C y ⟨n, s, h⟩ Q) : Aw P C (.cond (.tmp t) x y) ⟨n, s, h⟩ Q := Aw.cond hs ht hf

/-! ### 2. A row is no longer written; a row takes another name -/
theorem rows_of_flat {g sz : Nat} (hF : F g) : ∀ {es : List (List PL)} {b : Nat} {ys : List Value}, PL.ats w F es.flatten ys → (∀ e ∈ es, e.length = sz) →
    (∀ (j : Nat) (u : Value), ys[j]? = some u → w.cell? ⟨g, b * sz + j, none⟩ = some u) → PL.rows w F (some ⟨g, 0, none⟩) sz b es
  | [], _, _, _, _, _ => by simp [PL.rows]
  | e :: es, b, ys, h, hl, hc => by
    have he := hl e List.mem_cons_self
    rw [PL.rows]
    rw [List.flatten_cons] at h
    have h1 : PL.ats w F e (ys.take sz) := by
      have := ats_take h sz
      rwa [List.take_append_of_le_length (by omega), List.take_of_length_le (by omega)] at this
    have h2 : PL.ats w F es.flatten (ys.drop sz) := by
      have := ats_drop h sz
      rwa [← he, List.drop_left, he] at this
    refine ⟨⟨he, _, ys.take sz, rfl, hF, h1, fun j u hu => ?_⟩, rows_of_flat hF h2 (fun x hx => hl x (List.mem_cons_of_mem _ hx)) fun j u hu => ?_⟩
    · have hj : j < sz := by
        have := getElem?_prop hu
        simp at this
        omega
      rw [List.getElem?_take_of_lt hj] at hu
      rw [add_at, Nat.zero_add]
      exact hc j u hu
    · rw [List.getElem?_drop] at hu
      have := hc _ u hu
      rwa [← Nat.add_assoc, show b * sz + sz = (b + 1) * sz by rw [Nat.add_mul, Nat.one_mul]] at this

theorem Tn.freeze (t : Nat) {n b m ty sz : Nat} {pl : Bool} {es : List (List PL)} {s : List (Nat × AV)} {h : List (Nat × HB)} (hs : s.lookup t = some (.one (.own b m))) (hb : h.lookup b = some (.row ty sz pl es)) (hm : m = es.length) (hlo : b < 1000) :
    Tn ⟨n, s, h⟩ ⟨n, (t, .one (.p (.sl es))) :: s, (b, .gone) :: h⟩ := by
  rintro _ C a w ⟨β, r⟩
  obtain ⟨y, hy, hv⟩ := r.slots t _ hs
  have r1 := r.forget (b := b) hlo
  refine ⟨_, r1.same hy ?_⟩
  have hok := r.heap b _ hb
  simp only [AVs, AV.rep, AL.rep] at hv ⊢
  cases hl : β b with
  | dead => rw [hl] at hok; exact hok.elim
  | nil =>
    rw [hl] at hok hv
    obtain ⟨rfl, _⟩ := hok
    rw [hv.1]
    exact ⟨none, 0, 0, rfl, fit0, by simp [PL.rows]⟩
  | here g c =>
    rw [hl] at hok hv
    obtain ⟨arr, fz, h1, h2, h3, h4, h5, h6, h7, h8, h9⟩ := hok
    have hyoung := r.young b _ g c hb hl
    have hlv : ∀ k, live ((b, HB.gone) :: h) (upd β b .dead) k → live h β k ∧ k ≠ g := by
      rintro k ⟨b', x', c', k1, k2⟩
      by_cases e : b' = b
      · subst e; rw [upd_self] at k2; cases k2
      · rw [lookup_cons_ne _ _ e] at k1
        rw [upd_ne _ _ e] at k2
        refine ⟨⟨b', x', c', k1, k2⟩, fun e2 => ?_⟩
        subst e2
        exact e (r.apart b' b _ _ k c' c k1 hb k2 hl)
    have hg : good (Mt C ((b, HB.gone) :: h) (upd β b .dead)) w g := by
      refine ⟨hyoung.1, fun hm' => ?_⟩
      rcases hm' with hm' | hm'
      · have := r.sub g hm'
        rcases hyoung.2 with h' | h'
        · omega
        · have := r.pbhi b g h'; omega
      · exact (hlv g hm').2 rfl
    have hmove : ∀ k, good (Mt C h β) w k → good (Mt C ((b, HB.gone) :: h) (upd β b .dead)) w k ∧ w.heap[k]? = w.heap[k]? := fun k hk => ⟨⟨hk.1, fun hm' => hk.2 (hm'.imp id fun x => (hlv k x).1)⟩, rfl⟩
    refine ⟨some ⟨g, 0, none⟩, c, sz, by rw [hv.1, hm], ⟨h4, h5⟩, rows_of_flat hg (PL.ats_move hmove _ h9) h8 fun j u hu => ?_⟩
    have hj : j < es.length * sz := by
      have := getElem?_prop hu
      simp at this
      omega
    rw [List.getElem?_take_of_lt hj] at hu
    simp only [World.cell?, h1, Nat.zero_mul, Nat.zero_add]
    simpa using hu

/-- The row in slot t takes the name d. -/
theorem Tn.name (t d : Nat) {n b m ty sz : Nat} {pl : Bool} {es : List (List PL)} {s : List (Nat × AV)} {h : List (Nat × HB)} (hs : s.lookup t = some (.one (.own b m))) (hb : h.lookup b = some (.row ty sz pl es)) (hlo : b < 1000) (hd : d < 1000) (hno : AS.no d ⟨n, s, h⟩ = true) :
    Tn ⟨n, s, h⟩ ⟨n, (t, .one (.own d m)) :: s, (d, .row ty sz pl es) :: (b, .gone) :: h⟩ := by
  rintro _ C a w ⟨β, r⟩
  obtain ⟨y, hy, hv⟩ := r.slots t _ hs
  have hok := r.heap b _ hb
  have hob : ∀ b', some b = some b' → b' < 1000 ∧ ∃ x0, h.lookup b' = some x0 := fun b' e => by injection e with e; subst e; exact ⟨hlo, _, hb⟩
  have hloc : ∀ g c, β b = .here g c → g < w.heap.size ∧ (w.heap.size ≤ g ∨ ∃ b' c', some b = some b' ∧ β b' = .here g c') := fun g c e => ⟨(r.young b _ g c hb e).1, .inr ⟨b, c, rfl, e⟩⟩
  have hst : St (fun k => ∃ b' c, some b = some b' ∧ β b' = .here k c) w w := St.refl _ _
  have r1 := r.row (d := d) (ob := some b) (x := .row ty sz pl es) (loc := β b) hno hd hob hst hloc (by
    cases hl : β b with
    | dead => rw [hl] at hok; exact hok.elim
    | nil => rw [hl] at hok; exact hok
    | here g c =>
      rw [hl] at hok hloc
      obtain ⟨arr, fz, h1, h2, h3, h4, h5, h6, h7, h8, h9⟩ := hok
      exact ⟨arr, fz, h1, h2, h3, h4, h5, h6, h7, h8, PL.ats_move (row_good (x := .row ty sz pl es) hst hloc hob) _ h9⟩)
  refine ⟨_, r1.same hy ?_⟩
  simp only [AVs, AV.rep, AL.rep, upd_self]
  simp only [AVs, AV.rep, AL.rep] at hv
  exact hv

/-- The nil slice in slot t, as a row of one's own. -/
theorem Tn.own (t d e sz : Nat) {n : Nat} {s : List (Nat × AV)} {h : List (Nat × HB)} (hs : s.lookup t = some (.one .nil)) (hsz : 0 < sz) (hd : d < 1000) (hno : AS.no d ⟨n, s, h⟩ = true) :
    Tn ⟨n, s, h⟩ ⟨n, (t, .one (.own d 0)) :: s, (d, .row e sz true []) :: h⟩ := by
  rintro _ C a w ⟨β, r⟩
  obtain ⟨y, hy, hv⟩ := r.slots t _ hs
  have r1 := r.row (d := d) (ob := none) (x := .row e sz true []) (loc := .nil) hno hd (fun b h => by cases h) (St.refl _ _) (fun g c h => by cases h) ⟨rfl, hsz⟩
  refine ⟨_, r1.same hy ?_⟩
  simp only [AVs, AV.rep, AL.rep, upd_self]
  exact ⟨hv, trivial⟩

/-- A slot is told less: the nil slice as a slice that is read. -/
theorem Tn.soft (t : Nat) {n : Nat} {A : AV} {s : List (Nat × AV)} {h : List (Nat × HB)} (hs : s.lookup t = some A) : Tn ⟨n, s, h⟩ ⟨n, (t, A.soft) :: s, h⟩ := by
  rintro _ C a w ⟨β, r⟩
  obtain ⟨y, hy, hv⟩ := r.slots t _ hs
  exact ⟨β, r.same hy (soft_rep hv)⟩

/-! ### 3. Elements -/
def idxV (T : TT) (ops : Array Oper) (i n : Nat) (s : List (Nat × AV)) (h : List (Nat × HB)) : Option (Nat × AV × Int × Nat) := match ops[i]? with
  | some o => match gd ops ⟨n, s, h⟩ o, o.op, o.dst with
    | some true, .indexAddr t x j, some d => match T.lookup t, ev ⟨n, s, h⟩ x, ev ⟨n, s, h⟩ j with
      | some ti, some A, some (.one (.p (.v (.int _ m)))) => match ti.kd with
        | .sli _ sz _ => if d < n ∧ 0 < sz then some (d, A, m, sz) else none
        | _ => none
      | _, _, _ => none
    | _, _, _ => none
  | none => none

theorem idxV_ok (hT : TT.ok P T) {n d sz : Nat} {m : Int} {s : List (Nat × AV)} {h : List (Nat × HB)} {A : AV} (hs : idxV T ops i n s h = some (d, A, m, sz)) :
    ∃ o, ops[i]? = some o ∧ gd ops ⟨n, s, h⟩ o = some true ∧ o.dst = some d ∧ d < n ∧ 0 < sz ∧ ∀ a w β, Rel C ⟨n, s, h⟩ a w β → ∃ x, AVs (Mt C h β) β w A x ∧
      ∀ ad len c, x = .slice (some ad) len c → 0 ≤ m → m < len → ∀ w', (execOp a.eval o).run P w' = .ok (.value (.pointer (some (ad.add (m.toNat * sz))))) w' := by
  unfold idxV at hs
  split at hs
  · rename_i o ho
    split at hs
    · rename_i t x j d' hg hop hd
      split at hs
      · rename_i ti A' k m' hti hA hj
        split at hs
        · rename_i e sz' ag hk
          split at hs
          · rename_i hc
            injection hs with hs
            injection hs with hs1 hs
            injection hs with hs2 hs
            injection hs with hs3 hs4
            subst hs1 hs2 hs3 hs4
            refine ⟨o, ho, hg, hd, hc.1, hc.2, fun a w β r => ⟨a.eval x, r.ev hA, fun ad len c hx h0 h1 w' => ?_⟩⟩
            obtain ⟨xi, dd, z, i1, i2, i3, i4, i5, i6, i7, i8, i9⟩ := TI.info (hT _ _ hti)
            have hdd : dd = .slice e ∧ sizeT P e = some sz' := by
              rw [hk] at i6
              cases dd <;> simp only [tkOf] at i6 <;> first | cases i6; done | skip
              all_goals first | (split at i6 <;> first | (cases i6; done) | (rename_i hs'; injection i6 with a1 a2; subst a1 a2; exact ⟨rfl, hs'⟩)) | cases i6
            obtain ⟨rfl, hsz'⟩ := hdd
            obtain ⟨yi, dj, k1, k2, k3⟩ := sizeT_ok hsz'
            simp only [execOp, hop, Instr.indexAt, hx, r.ev_v hj, asIntOf, Sem.run_bind, Sem.run_pure, Result.andThen_ok, run_underlying' i2]
            rw [if_pos ⟨h0, h1⟩]
            simp [run_size' k1, k3]
          · cases hs
        · cases hs
      · cases hs
    · cases hs
  · cases hs

/-- The place of an element of a row that is read. -/
theorem Yd.idx (hT : TT.ok P T) {N : List Nat} {n d sz : Nat} {m : Int} {s : List (Nat × AV)} {h : List (Nat × HB)} {es : List (List PL)} (hs : idxV T ops i n s h = some (d, .one (.p (.sl es)), m, sz)) (e : List PL) (h0 : 0 ≤ m) (he : es[m.toNat]? = some e) (hl : e.length = sz) :
    Yd P C ops N i ⟨n, s, h⟩ d (.one (.el e 0)) := by
  obtain ⟨o, ho, hg, hd, hn, hsz, hrun⟩ := idxV_ok (C := C) hT hs
  refine Yd.of ho hg hd hn fun a w β r => ?_
  obtain ⟨x, hv, hx⟩ := hrun a w β r
  obtain ⟨A, c, sz', hy, hc, hrows⟩ := hv
  obtain ⟨q1, ad, ys, q2, q3, q4, q5⟩ := PL.rows_get hrows he
  subst q2
  have hlt : m.toNat < es.length := getElem?_prop he
  have := hx ad _ _ hy h0 (by omega)
  rw [hl] at q1
  subst q1
  refine ⟨_, fun w' _ => this w', ad.add (m.toNat * sz), ys, by rw [add_assoc', Nat.add_zero], by rw [add_block]; exact q3, q4, fun j u hu => ?_, by omega⟩
  rw [add_assoc']
  have := q5 j u hu
  rwa [Nat.zero_add] at this

theorem AwOps.idx (hT : TT.ok P T) {n d sz : Nat} {m : Int} {s : List (Nat × AV)} {h : List (Nat × HB)} {es : List (List PL)} (hs : idxV T ops i n s h = some (d, .one (.p (.sl es)), m, sz)) (e : List PL) (h0 : 0 ≤ m) (he : es[m.toNat]? = some e) (hl : e.length = sz)
    (hK : AwOps P C ops l ⟨n, (d, .one (.el e 0)) :: s, h⟩ K) : AwOps P C ops (i :: l) ⟨n, s, h⟩ K := AwOps.yd (Yd.idx hT hs e h0 he hl) hK

/-- The place of an element of a row of one's own. -/
theorem Yd.idxo (hT : TT.ok P T) {N : List Nat} {n d sz b m' ty : Nat} {pl : Bool} {m : Int} {s : List (Nat × AV)} {h : List (Nat × HB)} {es : List (List PL)} (hs : idxV T ops i n s h = some (d, .one (.own b m'), m, sz)) (hb : h.lookup b = some (.row ty sz pl es)) (h0 : 0 ≤ m) (h1 : m.toNat < m') :
    Yd P C ops N i ⟨n, s, h⟩ d (.one (.oel b m.toNat sz 0)) := by
  obtain ⟨o, ho, hg, hd, hn, hsz, hrun⟩ := idxV_ok (C := C) hT hs
  refine Yd.of ho hg hd hn fun a w β r => ?_
  obtain ⟨x, hv, hx⟩ := hrun a w β r
  have hok := r.heap b _ hb
  simp only [AVs, AV.rep, AL.rep] at hv
  cases hl : β b with
  | dead => rw [hl] at hok; exact hok.elim
  | nil => rw [hl] at hv; omega
  | here g c =>
    rw [hl] at hv
    have := hx _ _ _ hv.1 h0 (by omega)
    refine ⟨_, fun w' _ => this w', ?_⟩
    simp only [AVs, AV.rep, AL.rep, hl, add_at, Nat.zero_add, Nat.add_zero]
theorem AwOps.idxo (hT : TT.ok P T) {n d sz b m' ty : Nat} {pl : Bool} {m : Int} {s : List (Nat × AV)} {h : List (Nat × HB)} {es : List (List PL)} (hs : idxV T ops i n s h = some (d, .one (.own b m'), m, sz)) (hb : h.lookup b = some (.row ty sz pl es)) (h0 : 0 ≤ m) (h1 : m.toNat < m')
    (hK : AwOps P C ops l ⟨n, (d, .one (.oel b m.toNat sz 0)) :: s, h⟩ K) : AwOps P C ops (i :: l) ⟨n, s, h⟩ K := AwOps.yd (Yd.idxo hT hs hb h0 h1) hK

/-- An element of a row of one's own is read. -/
def ldoV (T : TT) (ops : Array Oper) (i n : Nat) (s : List (Nat × AV)) (h : List (Nat × HB)) : Option (Nat × TI × Nat × Nat × Nat × Nat) := match ops[i]? with
  | some o => match gd ops ⟨n, s, h⟩ o, o.op, o.dst with
    | some true, .load t x, some d => match T.lookup t, ev ⟨n, s, h⟩ x with
      | some ti, some (.one (.oel b k sz off)) => if d < n then some (d, ti, b, k, sz, off) else none
      | _, _ => none
    | _, _, _ => none
  | none => none
theorem Yd.ldo (hT : TT.ok P T) {N : List Nat} {n d b k sz off ty : Nat} {ti : TI} {pl : Bool} {s : List (Nat × AV)} {h : List (Nat × HB)} {es : List (List PL)} {A : AV} (hs : ldoV T ops i n s h = some (d, ti, b, k, sz, off)) (hb : h.lookup b = some (.row ty sz pl es)) (e : List PL) (he : es[k]? = some e) (hA : takeAt ti e off = some A) (hN : b ∉ N) :
    Yd P C ops N i ⟨n, s, h⟩ d A := by
  unfold ldoV at hs
  split at hs
  · rename_i o ho
    split at hs
    · rename_i t x d' hg hop hd
      split at hs
      · rename_i ti' b' k' sz' off' hti hx
        split at hs
        · rename_i hn
          injection hs with hs
          injection hs with hs1 hs
          injection hs with hs2 hs
          injection hs with hs3 hs
          injection hs with hs4 hs
          injection hs with hs5 hs6
          subst hs1 hs2 hs3 hs4 hs5 hs6
          refine Yd.of ho hg hd hn fun a w β r => ?_
          have hv := r.ev hx
          have hok := r.heap b' _ hb
          simp only [AVs, AV.rep, AL.rep] at hv
          cases hl : β b' with
          | dead => rw [hl] at hok; exact hok.elim
          | nil => rw [hl] at hok; obtain ⟨rfl, _⟩ := hok; simp at he
          | here g c =>
            rw [hl] at hok hv
            obtain ⟨arr, fz, h1, h2, h3, h4, h5, h6, h7, h8, h9⟩ := hok
            have hel := h8 e (List.mem_of_getElem? he)
            have hats : PL.ats w (good (Mt C h β) w) e (((arr.toList.take (es.length * sz')).drop (k' * sz')).take sz') := by
              have := ats_slice h9 (k' * sz') sz'
              rwa [flatten_slice h8 he] at this
            have hk : k' < es.length := getElem?_prop he
            have hkk : k' * sz' + sz' ≤ es.length * sz' := by
              have := Nat.mul_le_mul_right sz' (show k' + 1 ≤ es.length from hk)
              rw [Nat.add_mul, Nat.one_mul] at this
              exact this
            obtain ⟨y, hy', hav⟩ := load_pure (β := β) (hT _ _ hti) hats (ad := ⟨g, k' * sz', none⟩) (fun j u hu => by
              have hj : j < sz' := by
                have := getElem?_prop hu
                simp at this
                omega
              rw [List.getElem?_take_of_lt hj, List.getElem?_drop, List.getElem?_take_of_lt (by omega)] at hu
              rw [add_at]
              simp only [World.cell?, h1]
              simpa using hu) hA
            refine ⟨y, fun w' hw' => ?_, hav⟩
            have hy' := hy' w' (hw'.same g (r.young b' _ g c hb hl).1 (by
              rintro ⟨b2, hb2, x2, c2, h1, h2⟩
              have := r.apart b2 b' _ _ g c2 c h1 hb h2 hl
              subst this
              exact hN hb2))
            rw [add_at] at hy'
            simp [execOp, hop, Instr.loadAt, hv, Instr.sureAddr, hy']
        · cases hs
      · cases hs
    · cases hs
  · cases hs
theorem AwOps.ldo (hT : TT.ok P T) {n d b k sz off ty : Nat} {ti : TI} {pl : Bool} {s : List (Nat × AV)} {h : List (Nat × HB)} {es : List (List PL)} {A : AV} (hs : ldoV T ops i n s h = some (d, ti, b, k, sz, off)) (hb : h.lookup b = some (.row ty sz pl es)) (e : List PL) (he : es[k]? = some e) (hA : takeAt ti e off = some A)
    (hK : AwOps P C ops l ⟨n, (d, A) :: s, h⟩ K) : AwOps P C ops (i :: l) ⟨n, s, h⟩ K := AwOps.yd (Yd.ldo hT hs hb e he hA List.not_mem_nil) hK

/-! ### 4. Bytes of a string -/
def bt (s : ByteArray) (i : Nat) : Int := ((s.data.toList[i]?).getD 0).toNat
def idxS (ops : Array Oper) (T : TT) (i n : Nat) (s : List (Nat × AV)) (h : List (Nat × HB)) : Option (Nat × ByteArray × Int) := match ops[i]? with
  | some o => match gd ops ⟨n, s, h⟩ o, o.op, o.dst with
    | some true, .index t x j, some d => match T.lookup t, ev ⟨n, s, h⟩ x, ev ⟨n, s, h⟩ j with
      | some ti, some (.one (.p (.v (.string b)))), some (.one (.p (.v (.int _ m)))) => match ti.kd with
        | .str => if d < n then some (d, b, m) else none
        | _ => none
      | _, _, _ => none
    | _, _, _ => none
  | none => none
theorem Yd.byte (hT : TT.ok P T) {N : List Nat} {n d : Nat} {b : ByteArray} {m : Int} {s : List (Nat × AV)} {h : List (Nat × HB)} (hs : idxS ops T i n s h = some (d, b, m)) (h0 : 0 ≤ m) (h1 : m.toNat < b.size) :
    Yd P C ops N i ⟨n, s, h⟩ d (sc (.int .u8 (bt b m.toNat))) := by
  unfold idxS at hs
  split at hs
  · rename_i o ho
    split at hs
    · rename_i t x j d' hg hop hd
      split at hs
      · rename_i ti b' k m' hti hx hj
        split at hs
        · rename_i hk
          split at hs
          · rename_i hn
            injection hs with hs
            injection hs with hs1 hs
            injection hs with hs2 hs3
            subst hs1 hs2 hs3
            refine Yd.of ho hg hd hn fun a w β r => ?_
            obtain ⟨xi, dd, z, i1, i2, i3, i4, i5, i6, i7, i8, i9⟩ := TI.info (hT _ _ hti)
            obtain rfl : dd = .string := by
              rw [hk] at i6
              cases dd <;> simp only [tkOf] at i6 <;> first | rfl | (split at i6 <;> cases i6; done) | cases i6
            have hb : b'[m'.toNat]? = some b'[m'.toNat] := by simp [h1]
            have hbt : bt b' m'.toNat = (b'[m'.toNat].toNat : Int) := by
              have hl : m'.toNat < b'.data.toList.length := by simpa using h1
              simp only [bt, List.getElem?_eq_getElem hl, Option.getD_some]
              rfl
            exact ⟨_, fun w' _ => by simp [execOp, hop, Instr.index, r.ev_v hx, r.ev_v hj, asIntOf, run_underlying' i2, h0, h1, hbt], rfl, rfl⟩
          · cases hs
        · cases hs
      · cases hs
    · cases hs
  · cases hs
theorem AwOps.byte (hT : TT.ok P T) {n d : Nat} {b : ByteArray} {m : Int} {s : List (Nat × AV)} {h : List (Nat × HB)} (hs : idxS ops T i n s h = some (d, b, m)) (h0 : 0 ≤ m) (h1 : m.toNat < b.size)
    (hK : AwOps P C ops l ⟨n, (d, sc (.int .u8 (bt b m.toNat))) :: s, h⟩ K) : AwOps P C ops (i :: l) ⟨n, s, h⟩ K := AwOps.yd (Yd.byte hT hs h0 h1) hK
end Go.Proofs.YtbdgmondalkhlaaDoor.Aw
