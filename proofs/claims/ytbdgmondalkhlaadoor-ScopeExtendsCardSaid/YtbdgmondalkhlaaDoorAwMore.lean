
/- More rules: places renamed, rows frozen in boxes, slices held against nil, further binary operations, made slices, arrays.
   Conditions: none; generic in the program. -/
import Derived.Test.YtbdgmondalkhlaaDoorAwOwn
import Derived.Test.YtbdgmondalkhlaaDoorAwGo
namespace Go.Proofs.YtbdgmondalkhlaaDoor.Aw
open Go

variable {P : Program} {C : Ctx P} {T : TT} {σ τ : AS} {a : Act} {w w1 : World} {β β1 : Map} {ops : Array Oper} {i : Nat} {l : List Nat} {K : AS → Prop} {F : Nat → Prop}

/-! ### 1. A place takes another name, everywhere -/
def rnm (b d x : Nat) : Nat := if x = b then d else x
def AL.ren (b d : Nat) : AL → AL
  | .own x n => .own (rnm b d x) n
  | .ptr x o => .ptr (rnm b d x) o
  | .oel x i sz o => .oel (rnm b d x) i sz o
  | .clo f caps => .clo f (caps.map fun x => (rnm b d x.1, x.2))
  | x => x
def TV.ren (b d : Nat) : TV → TV
  | .one x => .one (x.ren b d)
  | .agg ps => .agg ps
def AV.ren (b d : Nat) : AV → AV
  | .one x => .one (x.ren b d)
  | .agg ps => .agg ps
  | .mix ps ov => .mix ps (ov.map fun x => (x.1, x.2.ren b d))
  | .tup l => .tup (l.map (·.ren b d))
def HB.ren (b d : Nat) : HB → HB
  | .box x => .box ⟨x.ty, x.ps, x.ov.map fun y => (y.1, y.2.ren b d)⟩
  | x => x
def AS.ren (b d : Nat) (σ : AS) : AS := ⟨σ.n, σ.s.map fun x => (x.1, x.2.ren b d), σ.h.map fun x => (rnm b d x.1, x.2.ren b d)⟩

theorem lookup_map {α γ : Type} (f : α → γ) : ∀ (l : List (Nat × α)) (k : Nat), (l.map fun x => (x.1, f x.2)).lookup k = (l.lookup k).map f
  | [], _ => rfl
  | (j, x) :: l, k => by
    rw [List.map_cons]
    by_cases e : k = j
    · subst e; rw [lookup_cons_self, lookup_cons_self]; rfl
    · rw [lookup_cons_ne _ _ e, lookup_cons_ne _ _ e, lookup_map f l k]
theorem lookup_ren {α γ : Type} {b d : Nat} (f : α → γ) : ∀ (l : List (Nat × α)) (k : Nat), (∀ x ∈ l, x.1 ≠ d) → (l.map fun x => (rnm b d x.1, f x.2)).lookup k = if k = d then (l.lookup b).map f else if k = b then none else (l.lookup k).map f
  | [], k, _ => by simp
  | (j, x) :: l, k, h => by
    have ih := lookup_ren (b := b) (d := d) f l k (fun y hy => h y (List.mem_cons_of_mem _ hy))
    have hj : j ≠ d := h (j, x) List.mem_cons_self
    rw [List.map_cons]
    show List.lookup k ((rnm b d j, f x) :: List.map (fun x => (rnm b d x.1, f x.2)) l) = _
    by_cases ej : j = b
    · subst ej
      rw [show rnm j d j = d from if_pos rfl]
      by_cases ek : k = d
      · subst ek
        rw [lookup_cons_self, if_pos rfl, lookup_cons_self]
        rfl
      · rw [lookup_cons_ne _ _ ek, ih, if_neg ek, if_neg ek]
        by_cases e2 : k = j
        · rw [if_pos e2, if_pos e2]
        · rw [if_neg e2, if_neg e2, lookup_cons_ne _ _ e2]
    · rw [show rnm b d j = j from if_neg ej]
      by_cases ek : k = j
      · subst ek
        rw [lookup_cons_self, if_neg hj, if_neg ej, lookup_cons_self]
        rfl
      · rw [lookup_cons_ne _ _ ek, ih, lookup_cons_ne _ _ ek]
        by_cases e3 : b = j
        · exact absurd e3.symm ej
        · rw [lookup_cons_ne _ _ e3]

def renM (b d : Nat) (β : Map) : Map := fun k => if k = d then β b else if k = b then .dead else β k
theorem renM_rnm {b d x : Nat} (hx : x ≠ d) : renM b d β (rnm b d x) = β x := by
  unfold renM rnm
  by_cases e : x = b
  · rw [if_pos e, if_pos rfl, e]
  · rw [if_neg e, if_neg hx, if_neg e]

theorem AL.rep_ren {b d : Nat} {x : AL} {y : Value} {F1 : Nat → Prop} (h : AL.rep β w F x y) (hno : x.no d = true) (hF : ∀ k, F k → F1 k) : AL.rep (renM b d β) w F1 (x.ren b d) y := by
  have hF' : ∀ k, F k → F1 k ∧ w.heap[k]? = w.heap[k]? := fun k hk => ⟨hF k hk, rfl⟩
  cases x with
  | p x => exact PL.at_move hF' x h
  | any => trivial
  | nil => exact h
  | el e o =>
    obtain ⟨ad, ys, h1, h2, h3, h4, h5⟩ := h
    exact ⟨ad, ys, h1, hF _ h2, PL.ats_move hF' e h3, h4, h5⟩
  | own x n =>
    simp only [AL.no, bne_iff_ne, ne_eq] at hno
    simp only [AL.ren, AL.rep, renM_rnm hno] at *
    exact h
  | ptr x n =>
    simp only [AL.no, bne_iff_ne, ne_eq] at hno
    simp only [AL.ren, AL.rep, renM_rnm hno] at *
    exact h
  | oel x i sz o =>
    simp only [AL.no, bne_iff_ne, ne_eq] at hno
    simp only [AL.ren, AL.rep, renM_rnm hno] at *
    exact h
  | clo fn caps =>
    obtain ⟨vs, h1, h2, h3⟩ := h
    refine ⟨vs, h1, by rw [h2]; simp, fun j b' o hj => ?_⟩
    rw [List.getElem?_map] at hj
    cases hc : caps[j]? with
    | none => rw [hc] at hj; cases hj
    | some q =>
      rw [hc] at hj
      simp only [Option.map_some, Option.some.injEq, Prod.mk.injEq] at hj
      obtain ⟨rfl, rfl⟩ := hj
      have hq : q.1 ≠ d := by
        simp only [AL.no, List.all_eq_true, bne_iff_ne, ne_eq] at hno
        exact hno _ (List.mem_of_getElem? hc)
      rw [renM_rnm hq]
      exact h3 j q.1 q.2 hc

theorem ovAt_ren {b d j : Nat} {ps : List PL} {ov : List (Nat × AL)} {q : AL} (h : ovAt ps (ov.map fun y => (y.1, y.2.ren b d)) j = some q) : ∃ q0, ovAt ps ov j = some q0 ∧ q = q0.ren b d := by
  unfold ovAt at *
  rw [lookup_map] at h
  cases ho : ov.lookup j with
  | some z => rw [ho] at h; simp at h; exact ⟨z, rfl, h.symm⟩
  | none =>
    rw [ho] at h
    simp only [Option.map_none] at h
    cases hp : ps[j]? with
    | none => rw [hp] at h; cases h
    | some z => rw [hp] at h; simp at h; exact ⟨_, rfl, h.symm⟩

theorem AV.rep_ren {b d : Nat} {x : AV} {y : Value} {F1 : Nat → Prop} (h : AV.rep β w F x y) (hno : x.no d = true) (hF : ∀ k, F k → F1 k) : AV.rep (renM b d β) w F1 (x.ren b d) y := by
  have hF' : ∀ k, F k → F1 k ∧ w.heap[k]? = w.heap[k]? := fun k hk => ⟨hF k hk, rfl⟩
  cases x with
  | one x => exact AL.rep_ren h hno hF
  | agg ps =>
    obtain ⟨ys, e, hp⟩ := h
    exact ⟨ys, e, PL.ats_move hF' ps hp⟩
  | mix ps ov =>
    obtain ⟨ys, e, hl, hj⟩ := h
    refine ⟨ys, e, hl, fun j x u hx hu => ?_⟩
    obtain ⟨q0, h1, rfl⟩ := ovAt_ren hx
    exact AL.rep_ren (hj j q0 u h1 hu) (ovAt_no h1 hno) hF
  | tup l =>
    obtain ⟨ys, e, hl, hj⟩ := h
    refine ⟨ys, e, by simpa using hl, fun j x u hx hu => ?_⟩
    rw [List.getElem?_map] at hx
    cases hc : l[j]? with
    | none => rw [hc] at hx; cases hx
    | some q =>
      rw [hc] at hx
      simp only [Option.map_some, Option.some.injEq] at hx
      subst hx
      have := hj j q u hc hu
      cases q with
      | agg ps =>
        obtain ⟨zs, e, hp⟩ := this
        exact ⟨zs, e, PL.ats_move hF' ps hp⟩
      | one q =>
        refine AL.rep_ren this ?_ hF
        simp only [AV.no, List.all_eq_true] at hno
        exact hno _ (List.mem_of_getElem? hc)

/-- Place b is called d from here on. -/
theorem Tn.ren (b d : Nat) {σ : AS} (hb : Nat.blt b 1000 = true) (hd : Nat.blt d 1000 = true) (hno : AS.no d σ = true) : Tn σ (σ.ren b d) := by
  rintro _ C a w ⟨β, r⟩
  replace hb : b < 1000 := by simpa using hb
  replace hd : d < 1000 := by simpa using hd
  have hkey : ∀ x ∈ σ.h, x.1 ≠ d := fun x hx => by
    simp only [AS.no, Bool.and_eq_true, List.all_eq_true, bne_iff_ne, ne_eq] at hno
    exact (hno.2 x hx).1
  have hlook : ∀ k, (σ.ren b d).h.lookup k = if k = d then (σ.h.lookup b).map (·.ren b d) else if k = b then none else (σ.h.lookup k).map (·.ren b d) := fun k => lookup_ren _ σ.h k hkey
  have hinv : ∀ k x, (σ.ren b d).h.lookup k = some x → ∃ k0 x0, σ.h.lookup k0 = some x0 ∧ x = x0.ren b d ∧ renM b d β k = β k0 ∧ k = rnm b d k0 := fun k x hk => by
    rw [hlook] at hk
    by_cases e : k = d
    · rw [if_pos e] at hk
      cases hx : σ.h.lookup b with
      | none => rw [hx] at hk; cases hk
      | some x0 =>
        rw [hx] at hk
        simp at hk
        exact ⟨b, x0, hx, hk.symm, by simp [renM, e], by simp [rnm, e]⟩
    · rw [if_neg e] at hk
      by_cases e2 : k = b
      · rw [if_pos e2] at hk; cases hk
      · rw [if_neg e2] at hk
        cases hx : σ.h.lookup k with
        | none => rw [hx] at hk; cases hk
        | some x0 =>
          rw [hx] at hk
          simp at hk
          exact ⟨k, x0, hx, hk.symm, by simp [renM, e, e2], by simp [rnm, e2]⟩
  have hlive : ∀ k, live (σ.ren b d).h (renM b d β) k → live σ.h β k := by
    rintro k ⟨b', x, c, h1, h2⟩
    obtain ⟨k0, x0, g1, g2, g3, g4⟩ := hinv b' x h1
    exact ⟨k0, x0, c, g1, by rw [← g3]; exact h2⟩
  have hgood : ∀ k, good (Mt C σ.h β) w k → good (Mt C (σ.ren b d).h (renM b d β)) w k := fun k hk => ⟨hk.1, fun hm => hk.2 (hm.imp id (hlive k))⟩
  refine ⟨renM b d β, ⟨r.defers, r.step, r.sub, r.pbM, r.pbhi, fun b0 g hb0 => ?_, fun k x hk => ?_, fun k x g c hk hl => ?_, fun k k' x x' g c c' hk hk' hl hl' => ?_, r.size, fun t x hx => ?_⟩⟩
  · have h1 := r.pbhi b0 g hb0
    have h2 : b0 ≠ d := by omega
    have h3 : b0 ≠ b := by omega
    simp only [renM, if_neg h2, if_neg h3]
    exact r.pbl b0 g hb0
  · obtain ⟨k0, x0, g1, rfl, g3, g4⟩ := hinv k x hk
    rw [g3]
    have hok := r.heap k0 x0 g1
    have hn := (AS.no_heap hno g1).2
    cases x0 with
    | box B =>
      cases hl : β k0 with
      | dead => rw [hl] at hok; exact hok.elim
      | nil => rw [hl] at hok; exact hok.elim
      | here g c =>
        rw [hl] at hok
        obtain ⟨arr, h1, h2, h3⟩ := hok
        refine ⟨arr, h1, h2, fun j q u hq hu => ?_⟩
        obtain ⟨q0, e1, rfl⟩ := ovAt_ren hq
        have := h3 j q0 u e1 hu
        exact ⟨AL.rep_ren this.1 (ovAt_no e1 hn) hgood, this.2⟩
    | row ty sz pl es =>
      cases hl : β k0 with
      | dead => rw [hl] at hok; exact hok.elim
      | nil => rw [hl] at hok; exact hok
      | here g c =>
        rw [hl] at hok
        obtain ⟨arr, fz, h1, h2, h3, h4, h5, h6, h7, h8, h9⟩ := hok
        exact ⟨arr, fz, h1, h2, h3, h4, h5, h6, h7, h8, PL.ats_move (fun k hk => ⟨hgood k hk, rfl⟩) _ h9⟩
    | gone => cases hl : β k0 <;> rw [hl] at hok <;> exact hok
  · obtain ⟨k0, x0, g1, rfl, g3, g4⟩ := hinv k x hk
    rw [g3] at hl
    have := r.young k0 x0 g c g1 hl
    refine ⟨this.1, this.2.imp id fun hp => ?_⟩
    have h1 := r.pbhi k0 g hp
    rw [g4, rnm, if_neg (by omega)]
    exact hp
  · obtain ⟨k0, x0, g1, rfl, g3, g4⟩ := hinv k x hk
    obtain ⟨k0', x0', g1', rfl, g3', g4'⟩ := hinv k' x' hk'
    rw [g3] at hl
    rw [g3'] at hl'
    have := r.apart k0 k0' x0 x0' g c c' g1 g1' hl hl'
    rw [g4, g4', this]
  · have h1 : (σ.s.map fun x => (x.1, x.2.ren b d)).lookup t = some x := hx
    rw [lookup_map] at h1
    cases hc : σ.s.lookup t with
    | none => rw [hc] at h1; cases h1
    | some x0 =>
      rw [hc] at h1
      simp at h1
      subst h1
      obtain ⟨y, hy, hv⟩ := r.slots t x0 hc
      exact ⟨y, hy, AV.rep_ren hv (AS.no_slot hno hc) hgood⟩

/-! ### 2. Rows frozen -/
theorem rows_take {A : Option Addr} {sz : Nat} {es : List (List PL)} (m : Nat) (h : PL.rows w F A sz 0 es) : PL.rows w F A sz 0 (es.take m) := by
  refine PL.rows_mk fun i e he => ?_
  have hi : i < m := by
    rcases Nat.lt_or_ge i m with h | h
    · exact h
    · rw [List.getElem?_eq_none (by simp; omega)] at he; cases he
  rw [List.getElem?_take_of_lt hi] at he
  exact PL.rows_get h he
theorem fz_at {n b m ty sz : Nat} (hlo : b < 1000) {pl : Bool} {es : List (List PL)} {s : List (Nat × AV)} {h : List (Nat × HB)} (r : Rel C ⟨n, s, h⟩ a w β) (hb : h.lookup b = some (.row ty sz pl es)) {y : Value} (hv : ALs (Mt C h β) β w (.own b m) y) (hm : m ≤ es.length) :
    PL.at w (good (Mt C ((b, .gone) :: h) (upd β b .dead)) w) (.sl (es.take m)) y := by
  have hok := r.heap b _ hb
  simp only [ALs, AL.rep] at hv
  cases hl : β b with
  | dead => rw [hl] at hok; exact hok.elim
  | nil =>
    rw [hl] at hok hv
    obtain ⟨rfl, _⟩ := hok
    rw [hv.1]
    exact ⟨none, 0, 0, by simp, by simpa using fit0, by simp [PL.rows]⟩
  | here g c =>
    rw [hl] at hok hv
    obtain ⟨arr, fz, h1, h2, h3, h4, h5, h6, h7, h8, h9⟩ := hok
    have hyoung := r.young b _ g c hb hl
    have hlv : ∀ k, live ((b, HB.gone) :: h) (upd β b .dead) k → live h β k ∧ k ≠ g := by
      rintro k ⟨b', x', c', k1, k2⟩
      by_cases e : b' = b
      · subst e; rw [upd_self] at k2; cases k2
      · rw [lookup_cons_ne _ _ e] at k1
        rw [upd_ne _ _ e] at k2
        refine ⟨⟨b', x', c', k1, k2⟩, fun e2 => ?_⟩
        subst e2
        exact e (r.apart b' b _ _ k c' c k1 hb k2 hl)
    have hg : good (Mt C ((b, HB.gone) :: h) (upd β b .dead)) w g := by
      refine ⟨hyoung.1, fun hm' => ?_⟩
      rcases hm' with hm' | hm'
      · have := r.sub g hm'
        rcases hyoung.2 with h' | h'
        · omega
        · exact absurd (r.pbhi b g h') (by omega)
      · exact (hlv g hm').2 rfl
    have hmove : ∀ k, good (Mt C h β) w k → good (Mt C ((b, HB.gone) :: h) (upd β b .dead)) w k ∧ w.heap[k]? = w.heap[k]? := fun k hk => ⟨⟨hk.1, fun hm' => hk.2 (hm'.imp id fun x => (hlv k x).1)⟩, rfl⟩
    have hrow : PL.rows w (good (Mt C ((b, HB.gone) :: h) (upd β b .dead)) w) (some ⟨g, 0, none⟩) sz 0 es := rows_of_flat hg (PL.ats_move hmove _ h9) h8 fun j u hu => by
      have hj : j < es.length * sz := by
        have := getElem?_prop hu
        simp at this
        omega
      rw [List.getElem?_take_of_lt hj] at hu
      simp only [World.cell?, h1, Nat.zero_mul, Nat.zero_add]
      simpa using hu
    exact ⟨some ⟨g, 0, none⟩, c, sz, by rw [hv.1]; simp [hm], by simp only [List.length_take, Nat.min_eq_left hm]; exact ⟨hv.2, h5⟩, rows_take m hrow⟩

/-- Rel over what is told less, with a place forgotten; the slots may be told anew. -/
theorem Tn.freezeP (t : Nat) {n b m ty sz : Nat} {pl : Bool} {es : List (List PL)} {s : List (Nat × AV)} {h : List (Nat × HB)} (hs : s.lookup t = some (.one (.own b m))) (hb : h.lookup b = some (.row ty sz pl es)) (hm : m ≤ es.length) (hlo : Nat.blt b 1000 = true) :
    Tn ⟨n, s, h⟩ ⟨n, (t, .one (.p (.sl (es.take m)))) :: s, (b, .gone) :: h⟩ := by
  rintro _ C a w ⟨β, r⟩
  replace hlo : b < 1000 := by simpa using hlo
  obtain ⟨y, hy, hv⟩ := r.slots t _ hs
  exact ⟨_, (r.forget (b := b) hlo).same hy (fz_at hlo r hb hv hm)⟩

/-- A row that stands in a variable is no longer written. -/
theorem Tn.freezeC (c o : Nat) {n b m ty sz : Nat} {pl : Bool} {es : List (List PL)} {B : Box} {s : List (Nat × AV)} {h : List (Nat × HB)} (hc : h.lookup c = some (.box B)) (ho : ovAt B.ps B.ov o = some (.own b m)) (hb : h.lookup b = some (.row ty sz pl es)) (hm : m = es.length) (hlo : Nat.blt b 1000 = true) (hcb : (c == b) = false) :
    Tn ⟨n, s, h⟩ ⟨n, s, (c, .box ⟨B.ty, B.ps.set o (.sl es), B.ov.filter fun x => x.1 != o⟩) :: (b, .gone) :: h⟩ := by
  rintro _ C a w ⟨β, r⟩
  replace hlo : b < 1000 := by simpa using hlo
  replace hcb : c ≠ b := by simpa using hcb
  have r1 := r.forget (b := b) hlo
  have hc1 : ((b, HB.gone) :: h).lookup c = some (.box B) := by rw [lookup_cons_ne _ _ hcb]; exact hc
  have hlk : ∀ k, ((c, HB.box ⟨B.ty, B.ps.set o (.sl es), B.ov.filter fun x => x.1 != o⟩) :: (b, HB.gone) :: h).lookup k = if k = c then some (HB.box ⟨B.ty, B.ps.set o (.sl es), B.ov.filter fun x => x.1 != o⟩) else ((b, HB.gone) :: h).lookup k := fun k => by
    by_cases e : k = c
    · subst e; rw [if_pos rfl, lookup_cons_self]
    · rw [if_neg e, lookup_cons_ne _ _ e]
  have hlive : ∀ k, live ((c, HB.box ⟨B.ty, B.ps.set o (.sl es), B.ov.filter fun x => x.1 != o⟩) :: (b, HB.gone) :: h) (upd β b .dead) k → live ((b, HB.gone) :: h) (upd β b .dead) k := by
    rintro k ⟨b', x, c', h1, h2⟩
    rw [hlk] at h1
    by_cases e : b' = c
    · subst e; exact ⟨_, _, c', hc1, h2⟩
    · rw [if_neg e] at h1; exact ⟨b', x, c', h1, h2⟩
  have hgood : ∀ k, good (Mt C ((b, HB.gone) :: h) (upd β b .dead)) w k → good (Mt C ((c, HB.box ⟨B.ty, B.ps.set o (.sl es), B.ov.filter fun x => x.1 != o⟩) :: (b, HB.gone) :: h) (upd β b .dead)) w k ∧ w.heap[k]? = w.heap[k]? := fun k hk => ⟨⟨hk.1, fun hm => hk.2 (hm.imp id (hlive k))⟩, rfl⟩
  have hex : ∀ k x, ((c, HB.box ⟨B.ty, B.ps.set o (.sl es), B.ov.filter fun x => x.1 != o⟩) :: (b, HB.gone) :: h).lookup k = some x → ∃ x', ((b, HB.gone) :: h).lookup k = some x' := fun k x hk => by
    rw [hlk] at hk
    by_cases e : k = c
    · subst e; exact ⟨_, hc1⟩
    · rw [if_neg e] at hk; exact ⟨_, hk⟩
  refine ⟨upd β b .dead, ⟨r1.defers, r1.step, r1.sub, r1.pbM, r1.pbhi, r1.pbl, fun k x hk => ?_, fun k x g c' hk hl => ?_, fun k k' x x' g c1 c2 hk hk' hl hl' => ?_, r1.size, fun t x hx => ?_⟩⟩
  · rw [hlk] at hk
    by_cases e : k = c
    · subst e
      rw [if_pos rfl] at hk
      injection hk with hk
      subst hk
      have hok0 := r.heap k _ hc
      have hok := r1.heap k _ hc1
      cases hl : upd β b .dead k with
      | dead => rw [hl] at hok; exact hok.elim
      | nil => rw [hl] at hok; exact hok.elim
      | here g cc =>
        rw [hl] at hok
        have hl0 : β k = .here g cc := by rw [upd_ne _ _ hcb] at hl; exact hl
        rw [hl0] at hok0
        obtain ⟨arr0, k1, k2, k3⟩ := hok0
        obtain ⟨arr, h1, h2, h3⟩ := hok
        obtain rfl : arr0 = arr := by rw [k1] at h1; injection h1 with h1; injection h1 with h1
        refine ⟨arr0, h1, by simpa using h2, fun j q u hq hu => ?_⟩
        simp only [ovAt, lookup_filter (fun k => k != o)] at hq
        by_cases ej : j = o
        · subst ej
          simp only [bne_self_eq_false, Bool.false_eq_true, if_false] at hq
          have hj : j < B.ps.length := by
            have := (Array.getElem?_eq_some_iff.1 hu).1
            omega
          rw [List.getElem?_set_self hj] at hq
          simp at hq
          subst hq
          have hv := (k3 j _ u ho hu).1
          have hat := fz_at (n := n) (s := s) hlo r hb hv (Nat.le_of_eq hm)
          rw [hm, List.take_length] at hat
          exact ⟨PL.at_move hgood _ hat, (h3 j _ u ho hu).2⟩
        · have hb' : (j != o) = true := by simpa using ej
          simp only [hb', if_true] at hq
          rw [List.getElem?_set_ne (Ne.symm ej)] at hq
          have := h3 j q u hq hu
          exact ⟨AL.rep_turn this.1 hgood (Tells.refl _ _), this.2⟩
    · rw [if_neg e] at hk
      exact HB.ok_move (r1.heap k x hk) (St.refl _ _) (fun k _ hm => hm.imp id (hlive k)) (Tells.refl _ _) (fun _ _ _ => rfl)
  · obtain ⟨x', hx'⟩ := hex k x hk
    exact r1.young k x' g c' hx' hl
  · obtain ⟨y, hy⟩ := hex k x hk
    obtain ⟨y', hy'⟩ := hex k' x' hk'
    exact r1.apart k k' y y' g c1 c2 hy hy' hl hl'
  · obtain ⟨y, hy, hv⟩ := r1.slots t x hx
    exact ⟨y, hy, AV.rep_turn hv hgood (Tells.refl _ _)⟩

/-- A variable's nil slices, told as slices that are read. -/
theorem Tn.softB (c : Nat) {n : Nat} {B : Box} {s : List (Nat × AV)} {h : List (Nat × HB)} (hc : h.lookup c = some (.box B)) (hn : B.ov.all (nilCell B.ps) = true) :
    Tn ⟨n, s, h⟩ ⟨n, s, (c, .box ⟨B.ty, B.ps, []⟩) :: h⟩ := by
  rintro _ C a w ⟨β, r⟩
  have hlk : ∀ k, ((c, HB.box ⟨B.ty, B.ps, []⟩) :: h).lookup k = if k = c then some (HB.box ⟨B.ty, B.ps, []⟩) else h.lookup k := fun k => by
    by_cases e : k = c
    · subst e; rw [if_pos rfl, lookup_cons_self]
    · rw [if_neg e, lookup_cons_ne _ _ e]
  have hex : ∀ k x, ((c, HB.box ⟨B.ty, B.ps, []⟩) :: h).lookup k = some x → ∃ x', h.lookup k = some x' := fun k x hk => by
    rw [hlk] at hk
    by_cases e : k = c
    · subst e; exact ⟨_, hc⟩
    · rw [if_neg e] at hk; exact ⟨_, hk⟩
  have hlive : ∀ k, live ((c, HB.box ⟨B.ty, B.ps, []⟩) :: h) β k → live h β k := by
    rintro k ⟨b', x, c', h1, h2⟩
    obtain ⟨x', hx'⟩ := hex b' x h1
    exact ⟨b', x', c', hx', h2⟩
  have hgood : ∀ k, good (Mt C h β) w k → good (Mt C ((c, HB.box ⟨B.ty, B.ps, []⟩) :: h) β) w k ∧ w.heap[k]? = w.heap[k]? := fun k hk => ⟨⟨hk.1, fun hm => hk.2 (hm.imp id (hlive k))⟩, rfl⟩
  refine ⟨β, ⟨r.defers, r.step, r.sub, r.pbM, r.pbhi, r.pbl, fun k x hk => ?_, fun k x g c' hk hl => ?_, fun k k' x x' g c1 c2 hk hk' hl hl' => ?_, r.size, fun t x hx => ?_⟩⟩
  · rw [hlk] at hk
    by_cases e : k = c
    · subst e
      rw [if_pos rfl] at hk
      injection hk with hk
      subst hk
      have hok := r.heap k _ hc
      cases hl : β k with
      | dead => rw [hl] at hok; exact hok.elim
      | nil => rw [hl] at hok; exact hok.elim
      | here g cc =>
        rw [hl] at hok
        obtain ⟨arr, h1, h2, h3⟩ := hok
        refine ⟨arr, h1, h2, fun j q u hq hu => ?_⟩
        simp only [ovAt, List.lookup_nil] at hq
        cases hp : B.ps[j]? with
        | none => rw [hp] at hq; cases hq
        | some p =>
          rw [hp] at hq
          simp at hq
          subst hq
          cases ho : B.ov.lookup j with
          | none =>
            have := h3 j (.p p) u (by unfold ovAt; rw [ho]; simp [hp]) hu
            exact ⟨PL.at_move hgood p this.1, this.2⟩
          | some x =>
            have hx := List.all_eq_true.1 hn _ (lookup_mem ho)
            have hq := h3 j x u (by unfold ovAt; rw [ho]) hu
            unfold nilCell at hx
            split at hx
            · rename_i e1 e2
              simp only at e1 e2
              rw [hp] at e2
              injection e2 with e2
              subst e1 e2
              exact ⟨nil_sl hq.1, hq.2⟩
            · cases hx
    · rw [if_neg e] at hk
      exact HB.ok_move (r.heap k x hk) (St.refl _ _) (fun k _ hm => hm.imp id (hlive k)) (Tells.refl _ _) (fun _ _ _ => rfl)
  · obtain ⟨x', hx'⟩ := hex k x hk
    exact r.young k x' g c' hx' hl
  · obtain ⟨y, hy⟩ := hex k x hk
    obtain ⟨y', hy'⟩ := hex k' x' hk'
    exact r.apart k k' y y' g c1 c2 hy hy' hl hl'
  · obtain ⟨y, hy, hv⟩ := r.slots t x hx
    exact ⟨y, hy, AV.rep_turn hv hgood (Tells.refl _ _)⟩

/-! ### 3. A slice held against nil -/
def eqnV (T : TT) (ops : Array Oper) (i n : Nat) (s : List (Nat × AV)) (h : List (Nat × HB)) : Option (Nat × List (List PL)) := match ops[i]? with
  | some o => match gd ops ⟨n, s, h⟩ o, o.op, o.dst with
    | some true, .binOp .eql t x (.const (.slice none 0 0)) _, some d => match T.lookup t, ev ⟨n, s, h⟩ x with
      | some ti, some (.one (.p (.sl es))) => match ti.kd with
        | .sli _ _ _ => if d < n then some (d, es) else none
        | _ => none
      | _, _ => none
    | _, _, _ => none
  | none => none
theorem run_eqnil {t : TypeId} {e : TypeId} (h : P.underlying t = some (.slice e)) (A : Option Addr) (k c : Nat) (w : World) : (binOp .eql t (.slice A k c) (.slice none 0 0)).run P w = .ok (.bool A.isNone) w := by
  have e0 : Op.equal t (.slice A k c) (.slice none 0 0) = Op.equalIn (9999 + 1) t (.slice A k c) (.slice none 0 0) := rfl
  show (Sem.bind (Op.equal t (.slice A k c) (.slice none 0 0)) fun b => Sem.pure (Value.bool b)).run P w = _
  rw [show (Sem.bind (Op.equal t (.slice A k c) (.slice none 0 0)) fun b => Sem.pure (Value.bool b)) = (Op.equal t (.slice A k c) (.slice none 0 0) >>= fun b => Sem.pure (Value.bool b)) from rfl]
  rw [Sem.run_bind, e0, Op.equalIn, Sem.run_bind, run_underlying' h]
  cases A <;> rfl
theorem AwOps.eqn (hT : TT.ok P T) {n d : Nat} {es : List (List PL)} {s : List (Nat × AV)} {h : List (Nat × HB)} (hs : eqnV T ops i n s h = some (d, es))
    (hK : ∀ b : Bool, (b = true → es = []) → AwOps P C ops l ⟨n, (d, sc (.bool b)) :: s, h⟩ K) : AwOps P C ops (i :: l) ⟨n, s, h⟩ K := by
  unfold eqnV at hs
  split at hs
  · rename_i o ho
    split at hs
    · rename_i t x yt d' hg hop hd
      split at hs
      · rename_i ti es' hti hx
        split at hs
        · rename_i e sz ag hk
          split at hs
          · rename_i hn
            injection hs with hs
            injection hs with hs1 hs2
            subst hs1 hs2
            intro a w ⟨β, r⟩ Q hQ
            obtain ⟨A, c, sz', hy, hfit, hrows⟩ := r.ev hx
            have hb : A.isNone = true → es' = [] := fun hA => by
              cases es' with
              | nil => rfl
              | cons e0 es0 =>
                rw [PL.rows] at hrows
                obtain ⟨⟨_, ad, _, h2, _⟩, _⟩ := hrows
                rw [h2] at hA
                cases hA
            have u := (kd_sli (hT _ _ hti) hk).1
            have hrun : ∀ w', (execOp a.eval o).run P w' = .ok (.value (.bool A.isNone)) w' := fun w' => by
              have e1 : (do eqGuard .eql t x (.const (.slice none 0 0)) (.slice A es'.length c) (.slice none 0 0); binOp .eql t (.slice A es'.length c) (.slice none 0 0)).run P w' = .ok (.bool A.isNone) w' := by
                rw [Sem.run_bind]
                exact run_eqnil u A _ _ w'
              have e2 : a.eval (.const (.slice none 0 0)) = .slice none 0 0 := rfl
              simp only [execOp, hop, hy, e2]
              simp only [Sem.run_bind (x := (do eqGuard .eql t x (.const (.slice none 0 0)) (.slice A es'.length c) (.slice none 0 0); binOp .eql t (.slice A es'.length c) (.slice none 0 0))), e1, Result.andThen_ok, Sem.run_pure]
            have hy1 : Yd P C ops [] i ⟨n, s, h⟩ d' (sc (.bool A.isNone)) ∨ True := .inr trivial
            simp only [wpOps, ho, gd_ok r hg, if_true]
            refine .inl ?_
            simp only [Oper.wp, hrun, Oper.upon_value, hd]
            exact hK A.isNone hb _ w ⟨β, r.put hn ⟨rfl, rfl⟩⟩ Q hQ
          · cases hs
        · cases hs
      · cases hs
    · cases hs
  · cases hs

/-! ### 4. Binary operations, with what they come to told from outside -/
def pvals : List PL → Option (List Value)
  | [] => some []
  | .v x :: r => match pvals r with
    | some l => some (x :: l)
    | none => none
  | .sl _ :: _ => none
theorem pvals_ok : ∀ {ps : List PL} {vs ys : List Value}, pvals ps = some vs → PL.ats w F ps ys → ys = vs
  | [], vs, ys, h, ha => by
    injection h with h
    subst h
    cases ys with
    | nil => rfl
    | cons y ys => simp [PL.ats] at ha
  | .sl _ :: _, vs, ys, h, ha => by cases h
  | .v x :: r, vs, ys, h, ha => by
    rw [pvals] at h
    split at h
    · rename_i l hl
      injection h with h
      subst h
      cases ys with
      | nil => simp [PL.ats] at ha
      | cons y ys =>
        rw [PL.ats] at ha
        rw [ha.1.1, pvals_ok hl ha.2]
    · cases h
def avV : AV → Option Value
  | .one (.p (.v x)) => some x
  | .agg ps => match pvals ps with
    | some vs => some (.agg vs.toArray)
    | none => none
  | _ => none
theorem avV_ok {M : Nat → Prop} {A : AV} {x y : Value} (h : avV A = some x) (hv : AVs M β w A y) : y = x := by
  unfold avV at h
  split at h
  · injection h with h
    subst h
    exact hv.1
  · rename_i ps
    split at h
    · rename_i vs hvs
      injection h with h
      subst h
      obtain ⟨ys, rfl, ha⟩ := hv
      rw [pvals_ok hvs ha]
    · cases h
  · cases h
def binO (ops : Array Oper) (i n : Nat) (s : List (Nat × AV)) (h : List (Nat × HB)) : Option (Nat × BinOp × Nat × Operand × Operand × Value × Value) := match ops[i]? with
  | some o => match gd ops ⟨n, s, h⟩ o, o.op, o.dst with
    | some true, .binOp op t x y _, some d => match ev ⟨n, s, h⟩ x, ev ⟨n, s, h⟩ y with
      | some A, some B => match avV A, avV B with
        | some X, some Y => if d < n then some (d, op, t, x, y, X, Y) else none
        | _, _ => none
      | _, _ => none
    | _, _, _ => none
  | none => none
def BinRun (P : Program) (op : BinOp) (t : TypeId) (x y : Operand) (X Y R : Value) : Prop := ∀ w : World, (do eqGuard op t x y X Y; binOp op t X Y).run P w = .ok R w
theorem Yd.bin {N : List Nat} {n d : Nat} {op : BinOp} {t : Nat} {x y : Operand} {X Y : Value} {s : List (Nat × AV)} {h : List (Nat × HB)} (hs : binO ops i n s h = some (d, op, t, x, y, X, Y)) (R : Value) (hR : leaf R = true) (hrun : BinRun P op t x y X Y R) : Yd P C ops N i ⟨n, s, h⟩ d (sc R) := by
  unfold binO at hs
  split at hs
  · rename_i o ho
    split at hs
    · rename_i op' t' x' y' yt d' hg hop hd
      split at hs
      · rename_i A B hA hB
        split at hs
        · rename_i X' Y' hX hY
          split at hs
          · rename_i hn
            injection hs with hs
            injection hs with hs1 hs
            injection hs with hs2 hs
            injection hs with hs3 hs
            injection hs with hs4 hs
            injection hs with hs5 hs
            injection hs with hs6 hs7
            subst hs1 hs2 hs3 hs4 hs5 hs6 hs7
            refine Yd.of ho hg hd hn fun a w β r => ⟨R, fun w' _ => ?_, rfl, hR⟩
            have hx := avV_ok hX (r.ev hA)
            have hy := avV_ok hY (r.ev hB)
            simp only [execOp, hop, hx, hy, Sem.run_bind (x := (do eqGuard op' t' x' y' X' Y'; binOp op' t' X' Y')), hrun w', Result.andThen_ok, Sem.run_pure]
          · cases hs
        · cases hs
      · cases hs
    · cases hs
  · cases hs
theorem AwOps.bin {n d : Nat} {op : BinOp} {t : Nat} {x y : Operand} {X Y : Value} {s : List (Nat × AV)} {h : List (Nat × HB)} (hs : binO ops i n s h = some (d, op, t, x, y, X, Y)) (R : Value) (hR : leaf R = true) (hrun : BinRun P op t x y X Y R)
    (hK : AwOps P C ops l ⟨n, (d, sc R) :: s, h⟩ K) : AwOps P C ops (i :: l) ⟨n, s, h⟩ K := AwOps.yd (Yd.bin hs R hR hrun) hK
theorem rem_run {t : TypeId} {x y : Operand} {k : IntKind} {a b : Int} (hb : b ≠ 0) : BinRun P .rem t x y (.int k a) (.int k b) (.int k (a.tmod b)) := fun w => by
  rw [Sem.run_bind]
  show ((binOp .rem t (.int k a) (.int k b))).run P w = _
  simp [binOp, Op.intDiv, hb]
theorem shl_run {t : TypeId} {x y : Operand} {k yk : IntKind} {a b : Int} (hb : 0 ≤ b) : BinRun P .shl t x y (.int k a) (.int yk b) (.int k (k.wrap (a * 2 ^ (min b.toNat k.bits)))) := fun w => by
  have : ¬ b < 0 := by omega
  rw [Sem.run_bind]
  show ((binOp .shl t (.int k a) (.int yk b))).run P w = _
  simp [binOp, Op.shift, this]
theorem shr_run {t : TypeId} {x y : Operand} {k yk : IntKind} {a b : Int} (hb : 0 ≤ b) : BinRun P .shr t x y (.int k a) (.int yk b) (.int k (a.fdiv (2 ^ (min b.toNat k.bits)))) := fun w => by
  have : ¬ b < 0 := by omega
  rw [Sem.run_bind]
  show ((binOp .shr t (.int k a) (.int yk b))).run P w = _
  simp [binOp, Op.shift, this]
theorem cat_run {t : TypeId} {x y : Operand} {a b : ByteArray} (h : a.size + b.size ≤ 9223372036854775807) : BinRun P .add t x y (.string a) (.string b) (.string (a ++ b)) := fun w => by
  have : ¬ ((a.size + b.size : Nat) : Int) > IntKind.i64.max := by
    have e : IntKind.i64.max = 9223372036854775807 := by decide
    omega
  rw [Sem.run_bind]
  show ((binOp .add t (.string a) (.string b))).run P w = _
  show (Op.stringOp .add a b).run P w = _
  simp only [Op.stringOp]
  rw [if_neg this]
  rfl

/-! ### 5. Integers that fit -/
theorem w64 (x : Int) : IntKind.wrap .i64 x = (x + 9223372036854775808) % 18446744073709551616 - 9223372036854775808 := by rw [IntKind.wrap_i64]
theorem w64_of {x : Int} (h1 : -9223372036854775808 ≤ x) (h2 : x ≤ 9223372036854775807) : IntKind.wrap .i64 x = x := by rw [w64]; omega
end Go.Proofs.YtbdgmondalkhlaaDoor.Aw
