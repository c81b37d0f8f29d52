
/- Operations over abstract states: a region's steps; variables in memory.
   Conditions: none; generic in the program. -/
import Derived.Test.YtbdgmondalkhlaaDoorAwVal
namespace Go.Proofs.YtbdgmondalkhlaaDoor.Aw
open Go

variable {P : Program} {C : Ctx P} {T : TT} {σ : AS} {a : Act} {w w1 : World} {β β1 : Map} {ops : Array Oper} {i : Nat} {l : List Nat} {K : AS → Prop}

/-- Is an operation carried out? -/
def gd (ops : Array Oper) (σ : AS) (o : Oper) : Option Bool := match o.guard with
  | none => some true
  | some (g, want) => match (ops[g]?).bind (·.dst) with
    | some t => match σ.s.lookup t with
      | some (.one (.p (.v (.bool b)))) => some (b == want)
      | some (.tup []) => some false
      | _ => none
    | none => none

theorem gd_ok (r : Rel C σ a w β) {o : Oper} {b : Bool} (h : gd ops σ o = some b) : Region.wanted o (yielded ops a.tmps) = b := by
  unfold gd at h
  split at h
  · rename_i hg
    injection h with h
    simp [Region.wanted, hg, h]
  · rename_i g want hg
    split at h
    · rename_i t ht
      split at h
      · rename_i c hc
        injection h with h
        obtain ⟨y, hy, hv⟩ := r.slots t _ hc
        have hy' : y = .bool c := hv.1
        subst hy'
        simp only [Region.wanted, hg, yielded, ht, Option.bind_some, hy]
        rw [← h]
        rfl
      · rename_i hc
        injection h with h
        obtain ⟨y, hy, ys, hv, _⟩ := r.slots t _ hc
        subst hv
        simp only [Region.wanted, hg, yielded, ht, Option.bind_some, hy]
        rw [← h]
        rfl
      · cases h
    · cases h

theorem undef_rep {β : Map} {w : World} {F : Nat → Prop} : AV.rep β w F (.tup []) undef := ⟨[], rfl, rfl, fun j x u hx => by simp at hx⟩

theorem AwOps.nil (h : K σ) : AwOps P C ops [] σ K := fun a w hr Q hQ => hQ a w σ h hr

theorem AwOps.cons {o : Oper} (ho : ops[i]? = some o) (hg : gd ops σ o = some true) (h : AwOp P C o σ (fun σ' => AwOps P C ops l σ' K)) : AwOps P C ops (i :: l) σ K := by
  intro a w hr Q hQ
  obtain ⟨β, r⟩ := hr
  simp only [wpOps, ho, gd_ok r hg, if_true]
  exact .inl (Oper.wp_mono (fun a' w' ⟨σ', k, r'⟩ => k a' w' r' Q hQ) (h a w ⟨β, r⟩ Q))

theorem AwOps.off {o : Oper} (ho : ops[i]? = some o) (hg : gd ops σ o = some false) (hd : ∀ d, o.dst = some d → d < σ.n)
    (h : AwOps P C ops l (match o.dst with | some d => σ.set d (.tup []) | none => σ) K) : AwOps P C ops (i :: l) σ K := by
  intro a w hr Q hQ
  obtain ⟨β, r⟩ := hr
  simp only [wpOps, ho, gd_ok r hg, Bool.false_eq_true, if_false]
  cases hds : o.dst with
  | none =>
    rw [hds] at h
    exact h a w ⟨β, r⟩ Q hQ
  | some d =>
    rw [hds] at h
    exact h _ w ⟨β, r.put (hd d hds) undef_rep⟩ Q hQ

def stepV (T : TT) (ops : Array Oper) (i : Nat) (σ : AS) : Option (Nat × AV) := match ops[i]? with
  | some o => match gd ops σ o, o.dst with
    | some true, some d => if d < σ.n then (match evalV T σ o.op with
      | some A => some (d, A)
      | none => none) else none
    | some false, some d => if d < σ.n then some (d, .tup []) else none
    | _, _ => none
  | none => none

/-! ### What an operation comes to, whatever stands around it -/
/-- It yields A in its place d, and would in every world that differs at the named places N alone. -/
def Yd (P : Program) (C : Ctx P) (ops : Array Oper) (N : List Nat) (i : Nat) (σ : AS) (d : Nat) (A : AV) : Prop := ∃ o, ops[i]? = some o ∧ o.dst = some d ∧ d < σ.n ∧
  ∀ a w β, Rel C σ a w β → ∃ y, YieldsIf P ops (fun w' => St (tch σ.h β N) w w') o y a ∧ AVs (Mt C σ.h β) β w A y
/-- What turned, turned at the named places N. -/
structure Mv (N : List Nat) (h : List (Nat × HB)) (β : Map) (w : World) (h' : List (Nat × HB)) (β' : Map) (w' : World) : Prop where
  st : St (tch h β N) w w'
  keep : ∀ k, tch h' β' N k → k < w.heap.size → tch h β N k
theorem Mv.refl (N : List Nat) (h : List (Nat × HB)) (β : Map) (w : World) : Mv N h β w h β w := ⟨St.refl _ _, fun _ h _ => h⟩
theorem Mv.step {N : List Nat} {h h' : List (Nat × HB)} {β β' : Map} {w w' w2 : World} (m : Mv N h β w h' β' w') (k : St (tch h' β' N) w' w2) : St (tch h β N) w w2 :=
  ⟨k.os.trans m.st.os, k.tape.trans m.st.tape, k.output.trans m.st.output, Nat.le_trans m.st.size k.size,
    fun b hb hn => (k.same b (Nat.lt_of_lt_of_le hb m.st.size) fun t => hn (m.keep b t hb)).trans (m.st.same b hb hn)⟩
/-- It has an effect, at the named places N. -/
def Ed (P : Program) (C : Ctx P) (ops : Array Oper) (N : List Nat) (i : Nat) (σ : AS) (K : AS → Prop) : Prop :=
  ∀ a w β, Rel C σ a w β → ∀ Q, wpOp P ops Q i (fun a' w' => ∃ σ' β', K σ' ∧ Rel C σ' a' w' β' ∧ Mv N σ.h β w σ'.h β' w') a w

variable {N : List Nat}
theorem Yd.of {o : Oper} {d : Nat} {A : AV} (ho : ops[i]? = some o) (hg : gd ops σ o = some true) (hd : o.dst = some d) (hn : d < σ.n)
    (h : ∀ a w β, Rel C σ a w β → ∃ y, (∀ w', St (tch σ.h β N) w w' → (execOp a.eval o).run P w' = .ok (.value y) w') ∧ AVs (Mt C σ.h β) β w A y) : Yd P C ops N i σ d A :=
  ⟨o, ho, hd, hn, fun a w β r => let ⟨y, hy, hv⟩ := h a w β r; ⟨y, .inl ⟨gd_ok r hg, hy⟩, hv⟩⟩
theorem Yd.off {o : Oper} {d : Nat} (ho : ops[i]? = some o) (hg : gd ops σ o = some false) (hd : o.dst = some d) (hn : d < σ.n) : Yd P C ops N i σ d (.tup []) :=
  ⟨o, ho, hd, hn, fun _ _ _ r => ⟨undef, .inr ⟨gd_ok r hg, rfl⟩, undef_rep⟩⟩
theorem Ed.of {o : Oper} {K : AS → Prop} (ho : ops[i]? = some o) (hg : gd ops σ o = some true)
    (h : ∀ a w β, Rel C σ a w β → ∀ Q, o.wp P a w (fun a' w' => ∃ σ' β', K σ' ∧ Rel C σ' a' w' β' ∧ Mv N σ.h β w σ'.h β' w') Q) : Ed P C ops N i σ K := by
  intro a w β r Q
  simp only [wpOp, ho, gd_ok r hg, if_true]
  exact .inl (h a w β r Q)
theorem Yd.ed {d : Nat} {A : AV} {K : AS → Prop} (h : Yd P C ops [] i σ d A) (hK : K (σ.set d A)) : Ed P C ops N i σ K := by
  intro a w β r Q
  obtain ⟨o, ho, hd, hn, h⟩ := h
  obtain ⟨y, hy, hv⟩ := h a w β r
  refine hy.wpOp ho (St.refl _ _) ?_
  rw [hd]
  exact ⟨_, β, hK, r.put hn hv, Mv.refl _ _ _ _⟩
theorem Ed.mono {K K' : AS → Prop} (h : Ed P C ops N i σ K) (hk : ∀ σ', K σ' → K' σ') : Ed P C ops N i σ K' :=
  fun a w β r Q => wpOp_mono (fun _ _ ⟨σ', β', k, q⟩ => ⟨σ', β', hk _ k, q⟩) (h a w β r Q)

/-- One after the other. -/
theorem AwOps.ed (h : Ed P C ops N i σ (fun σ' => AwOps P C ops l σ' K)) : AwOps P C ops (i :: l) σ K := by
  intro a w ⟨β, r⟩ Q hQ
  rw [wpOps_cons]
  exact wpOp_mono (fun a' w' ⟨σ', β', k, r', _⟩ => k a' w' ⟨β', r'⟩ Q hQ) (h a w β r Q)
theorem AwOps.yd {d : Nat} {A : AV} (h : Yd P C ops [] i σ d A) (hK : AwOps P C ops l (σ.set d A) K) : AwOps P C ops (i :: l) σ K := AwOps.ed (N := []) (h.ed hK)

/-! ### In whatever order -/
def QK {P : Program} (C : Ctx P) (K : AS → Prop) : Exit → Act → World → Prop := fun e a w => e = .normal ∧ ∃ σ', K σ' ∧ RelE C σ' a w
def AwAny (P : Program) (C : Ctx P) (ops : Array Oper) (N : List Nat) (fuel : Nat) (listed : Array Bool) (σ : AS) (K : AS → Prop) : Prop :=
  ∀ a w β, Rel C σ a w β → wpAnyH P .any ops (QK C K) (fun w' => St (tch σ.h β N) w w') fuel listed a w

theorem wpAnyH_weak {md : Region.Mode} {Q : Exit → Act → World → Prop} {S S' : World → Prop} (hS : ∀ w, S' w → S w) : ∀ (fuel : Nat) (listed : Array Bool) (a : Act) (w : World), wpAnyH P md ops Q S' fuel listed a w → wpAnyH P md ops Q S fuel listed a w
  | 0, _, _, _, h => h
  | fuel + 1, _, _, _, h => ⟨h.1, fun i hi => wpOp_mono (fun _ _ k => ⟨hS _ k.1, wpAnyH_weak hS fuel _ _ _ k.2⟩) (h.2 i hi)⟩

theorem Aw.regionAny (N : List Nat) {id : Nat} {Q : Exit → AS → Prop} (hm : P.follows .mixedOrders = true) (h : AwAny P C ops N ops.size (Array.replicate ops.size false) σ (fun σ' => Q .normal σ')) : Aw P C (.region id ops true) σ Q := by
  intro a w ⟨β, r⟩
  refine wp_mono (wp_region_held hm (h a _ β (r.grow (St.drew _ w (w.drawn + 1))))) ?_
  rintro e a' w' ⟨rfl, σ', k, r'⟩
  exact ⟨σ', k, r'⟩

variable {fuel : Nat} {listed : Array Bool}
theorem AwAny.done (hr : Region.ready .any ops listed = []) (h : K σ) : AwAny P C ops N fuel listed σ K :=
  fun _ _ β r => wpAnyH_done hr ⟨rfl, σ, h, β, r⟩ fuel
theorem AwAny.take {d : Nat} {A : AV} (hy : Yd P C ops N i σ d A) (hs : Region.noSelect ops = true) (hf : Region.free .any ops listed i = true) (hr : (Region.ready .any ops listed).contains i = true)
    (h : AwAny P C ops N fuel (listed.setIfInBounds i true) (σ.set d A) K) : AwAny P C ops N (fuel + 1) listed σ K := by
  intro a w β r
  obtain ⟨o, ho, hd, hn, hy⟩ := hy
  obtain ⟨y, hy, hv⟩ := hy a w β r
  refine wpAnyH_take ho hs hf hr (fun _ _ _ h => absurd h.1 (by simp)) hy (St.refl _ _) ?_
  rw [hd]
  exact h _ w β (r.put hn hv)
theorem AwAny.all {rs : List Nat} (hr : Region.ready .any ops listed = rs) (hne : rs ≠ []) (h : ∀ i ∈ rs, Ed P C ops N i σ (fun σ' => AwAny P C ops N fuel (listed.setIfInBounds i true) σ' K)) : AwAny P C ops N (fuel + 1) listed σ K := by
  intro a w β r
  refine wpAnyH_all hr hne fun i hi => wpOp_mono ?_ (h i hi a w β r _)
  rintro a' w' ⟨σ', β', k, r', m⟩
  refine ⟨m.st, wpAnyH_weak (fun w2 h2 => ?_) _ _ _ _ (k a' w' β' r')⟩
  exact m.step h2
theorem AwAny.one (hr : Region.ready .any ops listed = [i]) (h : Ed P C ops N i σ (fun σ' => AwAny P C ops N fuel (listed.setIfInBounds i true) σ' K)) : AwAny P C ops N (fuel + 1) listed σ K :=
  AwAny.all hr (by simp) fun j hj => by
    rw [List.mem_singleton] at hj
    subst hj
    exact h
theorem AwAny.two {j : Nat} (hr : Region.ready .any ops listed = [i, j]) (h : Ed P C ops N i σ (fun σ' => AwAny P C ops N fuel (listed.setIfInBounds i true) σ' K))
    (h' : Ed P C ops N j σ (fun σ' => AwAny P C ops N fuel (listed.setIfInBounds j true) σ' K)) : AwAny P C ops N (fuel + 1) listed σ K :=
  AwAny.all hr (by simp) fun k hk => by
    simp only [List.mem_cons, List.not_mem_nil, or_false] at hk
    rcases hk with rfl | rfl
    · exact h
    · exact h'

/-! ### Values -/
def rdN (N : List Nat) (ops : Array Oper) (i : Nat) (σ : AS) : Bool := match ops[i]? with
  | some o => rdok N σ o.op
  | none => true
theorem rdok_nil (σ : AS) (o : Op) : rdok [] σ o = true := by
  unfold rdok
  split
  · split <;> rfl
  · rfl
theorem Yd.val (hT : TT.ok P T) {d : Nat} {A : AV} (h : stepV T ops i σ = some (d, A)) (hN : rdN N ops i σ = true) : Yd P C ops N i σ d A := by
  unfold stepV at h
  split at h
  · rename_i o ho
    split at h
    · rename_i d' hg hd
      split at h
      · rename_i hn
        split at h
        · rename_i A' hA
          injection h with h
          injection h with h1 h2
          subst h1 h2
          exact Yd.of ho hg hd hn fun a w β r => evalV_ok hT r (by unfold rdN at hN; rw [ho] at hN; exact hN) hA
        · cases h
      · cases h
    · rename_i d' hg hd
      split at h
      · rename_i hn
        injection h with h
        injection h with h1 h2
        subst h1 h2
        exact Yd.off ho hg hd hn
      · cases h
    · cases h
  · cases h
theorem rdN_nil (ops : Array Oper) (i : Nat) (σ : AS) : rdN [] ops i σ = true := by
  unfold rdN
  split
  · exact rdok_nil _ _
  · rfl

/-- An operation that yields a value. -/
theorem AwOps.val (hT : TT.ok P T) {d : Nat} {A : AV} (h : stepV T ops i σ = some (d, A)) (hK : AwOps P C ops l (σ.set d A) K) : AwOps P C ops (i :: l) σ K := AwOps.yd (Yd.val hT h (rdN_nil _ _ _)) hK

/-- An operation without a place that isn't carried out. -/
theorem AwOps.pass {o : Oper} (ho : ops[i]? = some o) (hg : gd ops σ o = some false) (hd : o.dst = none) (hK : AwOps P C ops l σ K) : AwOps P C ops (i :: l) σ K := by
  refine AwOps.off ho hg (fun e he => by rw [hd] at he; cases he) ?_
  rw [hd]
  exact hK

/-- A slot's Bool is told both ways. -/
theorem Rel.same (r : Rel C σ a w β) {t : Nat} {A : AV} {y : Value} (hy : a.tmps[t]? = some y) (hv : AVs (Mt C σ.h β) β w A y) : Rel C (σ.set t A) a w β := by
  have hlt : t < σ.n := by rw [← r.size]; exact (Array.getElem?_eq_some_iff.1 hy).1
  have := r.put hlt hv
  have he : a.put (some t) y = a := by
    show ({ a with tmps := a.tmps.setIfInBounds t y } : Act) = a
    have : a.tmps.setIfInBounds t y = a.tmps := by
      apply Array.ext_getElem?
      intro k
      rw [Array.getElem?_setIfInBounds]
      by_cases e : t = k
      · subst e
        rw [if_pos rfl, if_pos (Array.getElem?_eq_some_iff.1 hy).1, hy]
      · simp [e]
    rw [this]
  rwa [he] at this
theorem AwOps.split {t : Nat} {b : Bool} {n : Nat} {s : List (Nat × AV)} {h : List (Nat × HB)} (hs : s.lookup t = some (sc (.bool b))) (ht : b = true → AwOps P C ops l ⟨n, (t, sc (.bool true)) :: s, h⟩ K) (hf : b = false → AwOps P C ops l ⟨n, (t, sc (.bool false)) :: s, h⟩ K) : AwOps P C ops l ⟨n, s, h⟩ K := by
  intro a w ⟨β, r⟩ Q hQ
  obtain ⟨y, hy, hv⟩ := r.slots t _ hs
  cases b with
  | true => exact ht rfl a w ⟨β, r.same hy hv⟩ Q hQ
  | false => exact hf rfl a w ⟨β, r.same hy hv⟩ Q hQ

theorem Aw.region {id : Nat} {Q : Exit → AS → Prop} (h : AwOps P C ops (List.range ops.size) σ (fun σ' => Q .normal σ')) : Aw P C (.region id ops false) σ Q :=
  fun a w hr => wp_region (h a w hr _ fun _ _ σ' k r => ⟨σ', k, r⟩)

/-! ### Variables in memory -/
def cellAt : AV → Nat → Option AL
  | .one x, 0 => some x
  | .agg ps, j => match ps[j]? with
    | some q => some (.p q)
    | none => none
  | _, _ => none
def solid (h : List (Nat × HB)) : AL → Bool
  | .p _ => true
  | .own b _ => match h.lookup b with
    | some (.row _ _ _ _) => true
    | _ => false
  | .ptr b _ => match h.lookup b with
    | some (.box _) => true
    | _ => false
  | .clo _ _ => true
  | .el _ _ => true
  | .nil => true
  | _ => false

theorem solid_leaf (r : Rel C σ a w β) {x : AL} (hs : solid σ.h x = true) {y : Value} (hv : ALs (Mt C σ.h β) β w x y) : leaf y = true := by
  cases x with
  | p q => exact PL.at_leaf hv
  | own b n =>
    simp only [solid] at hs
    split at hs
    · rename_i hb
      have := r.heap b _ hb
      simp only [ALs, AL.rep] at hv
      cases hl : β b with
      | dead => rw [hl] at this; exact this.elim
      | nil => rw [hl] at hv; rw [hv.1]; rfl
      | here g c => rw [hl] at hv; rw [hv.1]; rfl
    · cases hs
  | ptr b o =>
    simp only [solid] at hs
    split at hs
    · rename_i B hb
      have := r.heap b _ hb
      simp only [ALs, AL.rep] at hv
      cases hl : β b with
      | dead => rw [hl] at this; exact this.elim
      | nil => rw [hl] at this; exact this.elim
      | here g c => rw [hl] at hv; rw [hv]; rfl
    · cases hs
  | clo fn caps => obtain ⟨vs, h1, _⟩ := hv; rw [h1]; rfl
  | el e o => obtain ⟨ad, ys, h1, _⟩ := hv; rw [h1]; rfl
  | nil => rw [show y = _ from hv]; rfl
  | oel b i sz o => cases hs
  | any => cases hs

/-- How many cells a value that may be stored has. -/
def cellsN (h : List (Nat × HB)) : AV → Option Nat
  | .one x => if solid h x then some 1 else none
  | .agg ps => some ps.length
  | _ => none

theorem cells_ok (r : Rel C σ a w β) {A : AV} {n : Nat} (hn : cellsN σ.h A = some n) {y : Value} (hv : AVs (Mt C σ.h β) β w A y) :
    y.cells.toList.length = n ∧ ∀ (j : Nat) (u : Value), y.cells.toList[j]? = some u → leaf u = true ∧ ∀ q, cellAt A j = some q → ALs (Mt C σ.h β) β w q u := by
  cases A with
  | one x =>
    simp only [cellsN] at hn
    split at hn
    · rename_i hs
      injection hn with hn
      subst hn
      have hl := solid_leaf r hs hv
      have hc : y.cells = #[y] := by cases y <;> first | rfl | (simp [leaf] at hl; done)
      rw [hc]
      refine ⟨rfl, fun j u hu => ?_⟩
      cases j with
      | zero =>
        simp at hu
        subst hu
        exact ⟨hl, fun q hq => by simp [cellAt] at hq; subst hq; exact hv⟩
      | succ j => simp at hu
    · cases hn
  | agg ps =>
    obtain ⟨ys, rfl, hats⟩ := hv
    injection hn with hn
    subst hn
    refine ⟨by simp [Value.cells, PL.ats_length hats], fun j u hu => ?_⟩
    simp only [Value.cells] at hu
    have hlt : j < ps.length := by rw [← PL.ats_length hats]; simpa using getElem?_prop hu
    obtain ⟨z, hz, hat⟩ := PL.ats_get hats (p := ps[j]) (j := j) (by simp [hlt])
    have : z = u := by
      have hu' : ys[j]? = some u := by simpa using hu
      rw [hz] at hu'
      injection hu'
    subst this
    refine ⟨PL.at_leaf hat, fun q hq => ?_⟩
    simp [cellAt, hlt] at hq
    subst hq
    exact hat
  | mix ps ov => cases hn
  | tup l => cases hn

def putAt (B : Box) (o : Nat) : AV → Option Box
  | .one (.p q) => if o < B.ps.length then some ⟨B.ty, B.ps.set o q, B.ov.filter fun x => x.1 != o⟩ else none
  | .one x => if o < B.ps.length then some ⟨B.ty, B.ps.set o (.sl []), (o, x) :: B.ov.filter fun x => x.1 != o⟩ else none
  | .agg qs => if o = 0 ∧ qs.length = B.ps.length then some ⟨B.ty, qs, []⟩
    else if o + qs.length ≤ B.ps.length then some ⟨B.ty, B.ps.take o ++ qs ++ B.ps.drop (o + qs.length), B.ov.filter fun x => !(decide (o ≤ x.1) && decide (x.1 < o + qs.length))⟩ else none
  | _ => none

theorem lookup_filter {α : Type} (f : Nat → Bool) : ∀ (l : List (Nat × α)) (k : Nat), (l.filter fun x => f x.1).lookup k = if f k then l.lookup k else none
  | [], k => by simp
  | (j, x) :: l, k => by
    have ih := lookup_filter f l k
    rw [List.filter_cons]
    by_cases hj : f j
    · simp only [hj, if_true]
      by_cases e : k = j
      · subst e; simp [hj]
      · rw [lookup_cons_ne _ _ e, lookup_cons_ne _ _ e, ih]
    · simp only [hj, if_false, Bool.false_eq_true]
      by_cases e : k = j
      · subst e
        rw [ih]
        simp [hj]
      · rw [lookup_cons_ne _ _ e, ih]

theorem putAt_ok {B B' : Box} {o n : Nat} {A : AV} {h : List (Nat × HB)} (hp : putAt B o A = some B') (hn : cellsN h A = some n) :
    B'.ty = B.ty ∧ B'.ps.length = B.ps.length ∧ o + n ≤ B.ps.length ∧ ∀ (j : Nat) (q : AL), ovAt B'.ps B'.ov j = some q → if o ≤ j ∧ j < o + n then cellAt A (j - o) = some q else ovAt B.ps B.ov j = some q := by
  unfold putAt at hp
  split at hp
  · rename_i q
    split at hp
    · rename_i hlt
      injection hp with hp
      subst hp
      simp [cellsN, solid] at hn
      subst hn
      refine ⟨rfl, by simp, by omega, fun j x hx => ?_⟩
      simp only [ovAt, lookup_filter (fun k => k != o)] at hx
      by_cases e : j = o
      · subst e
        rw [if_pos (by omega)]
        simp [hlt] at hx
        simpa [cellAt] using hx
      · rw [if_neg (by omega)]
        have : (j != o) = true := by simpa using e
        simp only [this, if_true] at hx
        rw [List.getElem?_set_ne (Ne.symm e)] at hx
        exact hx
    · cases hp
  · rename_i x hx
    split at hp
    · rename_i hlt
      injection hp with hp
      subst hp
      simp only [cellsN] at hn
      split at hn
      · injection hn with hn
        subst hn
        refine ⟨rfl, by simp, by omega, fun j q hq => ?_⟩
        by_cases e : j = o
        · subst e
          rw [if_pos (by omega)]
          simp only [ovAt, lookup_cons_self] at hq
          simpa [cellAt] using hq
        · rw [if_neg (by omega)]
          have hjo : (j != o) = true := by simpa using e
          simp only [ovAt, lookup_cons_ne _ _ e, lookup_filter (fun k => k != o), hjo, if_true, List.getElem?_set_ne (Ne.symm e)] at hq
          exact hq
      · cases hn
    · cases hp
  · rename_i qs
    injection hn with hn
    subst hn
    split at hp
    · rename_i h0
      obtain ⟨rfl, hl⟩ := h0
      injection hp with hp
      subst hp
      refine ⟨rfl, hl, by omega, fun j q hq => ?_⟩
      have hlt : j < qs.length := by
        simp only [ovAt, List.lookup_nil] at hq
        cases hj : qs[j]? with
        | none => simp [hj] at hq
        | some z => exact getElem?_prop hj
      rw [if_pos (by omega)]
      simp only [ovAt, List.lookup_nil] at hq
      simp [cellAt, hlt] at hq ⊢
      exact hq
    · split at hp
      · rename_i hle
        injection hp with hp
        subst hp
        refine ⟨rfl, by simp; omega, hle, fun j q hq => ?_⟩
        simp only [ovAt, lookup_filter (fun k => !(decide (o ≤ k) && decide (k < o + qs.length)))] at hq
        by_cases hin : o ≤ j ∧ j < o + qs.length
        · rw [if_pos hin]
          have : (!(decide (o ≤ j) && decide (j < o + qs.length))) = false := by simp [hin]
          simp only [this, Bool.false_eq_true, if_false] at hq
          rw [List.append_assoc, List.getElem?_append_right (by simp; omega), List.getElem?_append_left (by simp; omega)] at hq
          have hm : min o B.ps.length = o := by omega
          simp only [List.length_take, hm] at hq
          cases hj : qs[j - o]? with
          | none => simp [hj] at hq
          | some z => simp [hj] at hq; simp [cellAt, hj, hq]
        · rw [if_neg hin]
          have : (!(decide (o ≤ j) && decide (j < o + qs.length))) = true := by simp; omega
          simp only [this, if_true] at hq
          by_cases hlo : j < o
          · rw [List.append_assoc, List.getElem?_append_left (by simp; omega), List.getElem?_take_of_lt hlo] at hq
            exact hq
          · rw [List.getElem?_append_right (by simp; omega), List.getElem?_drop] at hq
            have : o + qs.length + (j - (List.take o B.ps ++ qs).length) = j := by simp; omega
            rw [this] at hq
            exact hq
      · cases hp
  · cases hp
end Go.Proofs.YtbdgmondalkhlaaDoor.Aw
