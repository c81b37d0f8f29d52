
/- How an abstract state moves with the world.
   Conditions: none; generic in the program. -/
import Derived.Test.YtbdgmondalkhlaaDoorAwBase
namespace Go.Proofs.YtbdgmondalkhlaaDoor.Aw
open Go

variable {P : Program} {C : Ctx P} {σ : AS} {a : Act} {w w1 : World} {β β1 : Map}

def AS.set (σ : AS) (d : Nat) (x : AV) : AS := { σ with s := (d, x) :: σ.s }

theorem Rel.wlt (r : Rel C σ a w β) : C.w0.heap.size ≤ w.heap.size := r.step.size
theorem Rel.glob (r : Rel C σ a w β) : Glob P (Mt C σ.h β) w := fun g hg => by
  obtain ⟨h1, m, h2⟩ := C.gl g hg
  have hlt : g < C.w0.heap.size := by
    rcases Nat.lt_or_ge g C.w0.heap.size with h | h
    · exact h
    · have hn : C.w0.heap[g]? = none := by simp [h]
      unfold World.cell? at h2
      simp only [hn] at h2
      cases h2
  have hnp : ¬ mp C g := fun ⟨b, hb⟩ => h1 (r.pbM b g hb)
  refine ⟨fun hm => hm.elim h1 ?_, m, ?_⟩
  · rintro ⟨b, x, c, hl, hb⟩
    rcases (r.young b x g c hl hb).2 with h | h
    · omega
    · exact hnp ⟨b, h⟩
  · rw [cell_same (w := C.w0) (a := ⟨g, 0, none⟩) (r.step.same g hlt hnp)]
    exact h2

theorem Rel.live_mp (r : Rel C σ a w β) {k : Nat} (h : live σ.h β k) (hk : k < C.w0.heap.size) : mp C k := by
  obtain ⟨b, x, cap, hb, hl⟩ := h
  rcases (r.young b x k cap hb hl).2 with h | h
  · omega
  · exact ⟨b, h⟩

/-- The general move: the world, the map and what is held turn; the slots stay. -/
theorem Rel.turn (r : Rel C σ a w β) {h1 : List (Nat × HB)} (hst : St (live σ.h β) w w1)
    (hp : ∀ b g, (b, g) ∈ C.pb → ∃ c, β1 b = .here g c)
    (hT : ∀ b, β1 b = β b ∨ β1 b = .dead ∨ σ.no b = true)
    (hlive : ∀ k, k < w.heap.size → live h1 β1 k → live σ.h β k)
    (hheap : ∀ b x, h1.lookup b = some x → (σ.h.lookup b = some x ∧ β1 b = β b ∧ ∀ g c, β b = .here g c → w1.heap[g]? = w.heap[g]?) ∨ HB.ok (Mt C h1 β1) β1 w1 x (β1 b))
    (hyoung : ∀ b x g c, h1.lookup b = some x → β1 b = .here g c → g < w1.heap.size ∧ (C.w0.heap.size ≤ g ∨ (b, g) ∈ C.pb))
    (hapart : ∀ b b' x x' g c c', h1.lookup b = some x → h1.lookup b' = some x' → β1 b = .here g c → β1 b' = .here g c' → b = b') :
    Rel C { σ with h := h1 } a w1 β1 := by
  have hM : St (Mt C σ.h β) w w1 := hst.mono (fun k _ h => .inr h)
  have hM1 : ∀ k, k < w.heap.size → Mt C h1 β1 k → Mt C σ.h β k := fun k hk h => h.imp id (hlive k hk)
  refine ⟨r.defers, ?_, r.sub, r.pbM, r.pbhi, hp, ?_, hyoung, hapart, r.size, ?_⟩
  · exact ⟨hst.os.trans r.step.os, hst.tape.trans r.step.tape, hst.output.trans r.step.output, Nat.le_trans r.step.size hst.size, fun k hk hn =>
      (hst.same k (Nat.lt_of_lt_of_le hk r.step.size) (fun hl => hn (r.live_mp hl hk))).trans (r.step.same k hk hn)⟩
  · intro b x hb
    rcases hheap b x hb with ⟨h0, h1', h2⟩ | h
    · rw [h1']
      refine HB.ok_move (r.heap b x h0) hM hM1 (fun d => ?_) h2
      rcases hT d with e | e | e
      · exact .inl e
      · exact .inr (.inl e)
      · exact .inr (.inr (AS.no_heap e h0).2)
    · exact h
  · intro t x hx
    obtain ⟨y, hy, hv⟩ := r.slots t x hx
    refine ⟨y, hy, hv.move hM hM1 fun d => ?_⟩
    rcases hT d with e | e | e
    · exact .inl e
    · exact .inr (.inl e)
    · exact .inr (.inr (AS.no_slot e hx))

/-- A slot is written. -/
theorem Rel.put (r : Rel C σ a w β) {d : Nat} {x : AV} {y : Value} (hd : d < σ.n) (hx : AVs (Mt C σ.h β) β w x y) : Rel C (σ.set d x) (a.put (some d) y) w β := by
  refine ⟨r.defers, r.step, r.sub, r.pbM, r.pbhi, r.pbl, r.heap, r.young, r.apart, ?_, ?_⟩
  · show (a.tmps.setIfInBounds d y).size = σ.n
    rw [Array.size_setIfInBounds]
    exact r.size
  · intro t z hz
    have hs : d < a.tmps.size := by rw [r.size]; exact hd
    show ∃ u, (a.tmps.setIfInBounds d y)[t]? = some u ∧ _
    by_cases e : t = d
    · subst e
      rw [AS.set] at hz
      simp only [lookup_cons_self, Option.some.injEq] at hz
      subst hz
      exact ⟨y, by simp [hs], hx⟩
    · rw [AS.set] at hz
      simp only [lookup_cons_ne _ _ e] at hz
      obtain ⟨u, hu, hv⟩ := r.slots t z hz
      exact ⟨u, by rw [Array.getElem?_setIfInBounds]; simp [Ne.symm e, hu], hv⟩

/-- Blocks are laid, orders are drawn: nothing that was turns. -/
theorem Rel.grow (r : Rel C σ a w β) (hst : St (fun _ => False) w w1) : Rel C σ a w1 β :=
  r.turn (h1 := σ.h) (hst.mono (fun _ _ h => h.elim)) r.pbl (fun _ => .inl rfl) (fun _ _ h => h)
    (fun b x hb => .inl ⟨hb, rfl, fun g c hg => hst.same g (r.young b x g c hb hg).1 (fun h => h)⟩)
    (fun b x g c hb hg => ⟨Nat.lt_of_lt_of_le (r.young b x g c hb hg).1 hst.size, (r.young b x g c hb hg).2⟩) r.apart

def upd (β : Map) (d : Nat) (l : Loc) : Map := fun b => if b = d then l else β b
theorem upd_self (β : Map) (d : Nat) (l : Loc) : upd β d l d = l := by simp [upd]
theorem upd_ne (β : Map) {d b : Nat} (l : Loc) (h : b ≠ d) : upd β d l b = β b := by simp [upd, h]

/-- A new named place over a new block. -/
theorem Rel.new (r : Rel C σ a w β) {d g c : Nat} {x : HB} (hno : σ.no d = true) (hlo : d < 1000) (hst : St (fun _ => False) w w1) (hg : w.heap.size ≤ g) (hg1 : g < w1.heap.size)
    (hx : HB.ok (Mt C ((d, x) :: σ.h) (upd β d (.here g c))) (upd β d (.here g c)) w1 x (.here g c)) :
    Rel C { σ with h := (d, x) :: σ.h } a w1 (upd β d (.here g c)) := by
  have hd : σ.h.lookup d = none := AS.no_look hno
  have hne : ∀ b x', σ.h.lookup b = some x' → b ≠ d := fun b x' h e => by subst e; rw [hd] at h; cases h
  refine r.turn (hst.mono (fun _ _ h => h.elim)) ?_ ?_ ?_ ?_ ?_ ?_
  · intro b g' hb
    have : b ≠ d := fun e => by
      have := r.pbhi b g' hb
      omega
    rw [upd_ne _ _ this]
    exact r.pbl b g' hb
  · intro b
    by_cases e : b = d
    · subst e; exact .inr (.inr hno)
    · exact .inl (upd_ne _ _ e)
  · rintro k hk ⟨b, x', cap, hb, hl⟩
    by_cases e : b = d
    · subst e
      rw [upd_self] at hl
      injection hl with h1 h2
      omega
    · rw [lookup_cons_ne _ _ e] at hb
      rw [upd_ne _ _ e] at hl
      exact ⟨b, x', cap, hb, hl⟩
  · intro b x' hb
    by_cases e : b = d
    · subst e
      rw [lookup_cons_self] at hb
      injection hb with hb
      subst hb
      rw [upd_self]
      exact .inr hx
    · rw [lookup_cons_ne _ _ e] at hb
      exact .inl ⟨hb, upd_ne _ _ e, fun g' c' hg' => hst.same g' (r.young b x' g' c' hb hg').1 (fun h => h)⟩
  · intro b x' g' c' hb hl
    by_cases e : b = d
    · subst e
      rw [upd_self] at hl
      injection hl with h1 h2
      subst h1
      exact ⟨hg1, .inl (Nat.le_trans r.wlt hg)⟩
    · rw [lookup_cons_ne _ _ e] at hb
      rw [upd_ne _ _ e] at hl
      exact ⟨Nat.lt_of_lt_of_le (r.young b x' g' c' hb hl).1 hst.size, (r.young b x' g' c' hb hl).2⟩
  · intro b b' x1 x2 g' c1 c2 h1 h2 l1 l2
    by_cases e : b = d
    · by_cases e' : b' = d
      · rw [e, e']
      · subst e
        rw [upd_self] at l1
        injection l1 with l1
        rw [lookup_cons_ne _ _ e'] at h2
        rw [upd_ne _ _ e'] at l2
        have := (r.young b' x2 g' c2 h2 l2).1
        omega
    · by_cases e' : b' = d
      · subst e'
        rw [upd_self] at l2
        injection l2 with l2
        rw [lookup_cons_ne _ _ e] at h1
        rw [upd_ne _ _ e] at l1
        have := (r.young b x1 g' c1 h1 l1).1
        omega
      · rw [lookup_cons_ne _ _ e] at h1
        rw [lookup_cons_ne _ _ e'] at h2
        rw [upd_ne _ _ e] at l1
        rw [upd_ne _ _ e'] at l2
        exact r.apart b b' x1 x2 g' c1 c2 h1 h2 l1 l2

/-- What lies at a named place is written, in its block. -/
theorem Rel.over (r : Rel C σ a w β) {b g c : Nat} {x x0 : HB} (hb : σ.h.lookup b = some x0) (hl : β b = .here g c) (hst : St (fun k => k = g) w w1)
    (hx : HB.ok (Mt C ((b, x) :: σ.h) β) β w1 x (.here g c)) : Rel C { σ with h := (b, x) :: σ.h } a w1 β := by
  have hlk : ∀ b' x', ((b, x) :: σ.h).lookup b' = some x' → ∃ x'', σ.h.lookup b' = some x'' := fun b' x' h => by
    by_cases e : b' = b
    · subst e; exact ⟨x0, hb⟩
    · rw [lookup_cons_ne _ _ e] at h; exact ⟨x', h⟩
  refine r.turn (hst.mono (fun k _ h => ⟨b, x0, c, hb, by rw [h]; exact hl⟩)) r.pbl (fun _ => .inl rfl) ?_ ?_ ?_ ?_
  · rintro k hk ⟨b', x', cap, hb', hl'⟩
    obtain ⟨x'', h''⟩ := hlk b' x' hb'
    exact ⟨b', x'', cap, h'', hl'⟩
  · intro b' x' hb'
    by_cases e : b' = b
    · subst e
      rw [lookup_cons_self] at hb'
      injection hb' with hb'
      subst hb'
      rw [hl]
      exact .inr hx
    · rw [lookup_cons_ne _ _ e] at hb'
      refine .inl ⟨hb', rfl, fun g' c' hg' => hst.same g' (r.young b' x' g' c' hb' hg').1 (fun h => ?_)⟩
      subst h
      exact e (r.apart b' b x' x0 g' c' c hb' hb hg' hl)
  · intro b' x' g' c' hb' hl'
    obtain ⟨x'', h''⟩ := hlk b' x' hb'
    have := r.young b' x'' g' c' h'' hl'
    exact ⟨Nat.lt_of_lt_of_le this.1 hst.size, this.2⟩
  · intro b1 b2 x1 x2 g' c1 c2 h1 h2 l1 l2
    obtain ⟨y1, k1⟩ := hlk b1 x1 h1
    obtain ⟨y2, k2⟩ := hlk b2 x2 h2
    exact r.apart b1 b2 y1 y2 g' c1 c2 k1 k2 l1 l2

/-- A named place is forgotten: what it held is no longer written. -/
theorem Rel.forget (r : Rel C σ a w β) {b : Nat} (hlo : b < 1000) : Rel C { σ with h := (b, .gone) :: σ.h } a w (upd β b .dead) := by
  refine r.turn (St.refl _ _) ?_ ?_ ?_ ?_ ?_ ?_
  · intro b' g' hb
    have : b' ≠ b := fun e => by
      have := r.pbhi b' g' hb
      omega
    rw [upd_ne _ _ this]
    exact r.pbl b' g' hb
  · intro b'
    by_cases e : b' = b
    · subst e; exact .inr (.inl (upd_self _ _ _))
    · exact .inl (upd_ne _ _ e)
  · rintro k hk ⟨b', x', cap, hb', hl'⟩
    by_cases e : b' = b
    · subst e; rw [upd_self] at hl'; cases hl'
    · rw [lookup_cons_ne _ _ e] at hb'
      rw [upd_ne _ _ e] at hl'
      exact ⟨b', x', cap, hb', hl'⟩
  · intro b' x' hb'
    by_cases e : b' = b
    · subst e
      rw [lookup_cons_self] at hb'
      injection hb' with hb'
      subst hb'
      rw [upd_self]
      exact .inr trivial
    · rw [lookup_cons_ne _ _ e] at hb'
      exact .inl ⟨hb', upd_ne _ _ e, fun _ _ _ => rfl⟩
  · intro b' x' g' c' hb' hl'
    by_cases e : b' = b
    · subst e; rw [upd_self] at hl'; cases hl'
    · rw [lookup_cons_ne _ _ e] at hb'
      rw [upd_ne _ _ e] at hl'
      exact r.young b' x' g' c' hb' hl'
  · intro b1 b2 x1 x2 g' c1 c2 h1 h2 l1 l2
    by_cases e : b1 = b
    · subst e; rw [upd_self] at l1; cases l1
    · by_cases e' : b2 = b
      · subst e'; rw [upd_self] at l2; cases l2
      · rw [lookup_cons_ne _ _ e] at h1
        rw [lookup_cons_ne _ _ e'] at h2
        rw [upd_ne _ _ e] at l1
        rw [upd_ne _ _ e'] at l2
        exact r.apart b1 b2 x1 x2 g' c1 c2 h1 h2 l1 l2

/-! ### Operands -/
def cpl : Value → PL
  | .slice none 0 0 => .sl []
  | x => .v x
def cst : Value → Option AV
  | .slice none 0 0 => some (.one .nil)
  | .agg cs => if cs.toList.all leaf then some (.agg (cs.toList.map cpl)) else none
  | .tuple _ => none
  | x => some (.one (.p (cpl x)))
def ev (σ : AS) : Operand → Option AV
  | .tmp t => σ.s.lookup t
  | .const x => cst x
  | .func f => some (.one (.p (.v (.func (.func f) #[] #[]))))
  | .global _ => none

theorem cpl_at (w : World) (F : Nat → Prop) {x : Value} (h : leaf x = true) : PL.at w F (cpl x) x := by
  unfold cpl
  split
  · exact ⟨none, 0, 0, rfl, fit0, by simp [PL.rows]⟩
  · exact ⟨rfl, h⟩
theorem cst_rep {β : Map} {w : World} {F : Nat → Prop} {x : Value} {A : AV} (h : cst x = some A) : AV.rep β w F A x := by
  unfold cst at h
  split at h
  · injection h with h
    subst h
    rfl
  · rename_i cs
    split at h
    · rename_i hl
      injection h with h
      subst h
      refine ⟨cs.toList, by simp, PL.ats_mk (by simp) fun j p y hp hy => ?_⟩
      rw [List.getElem?_map, hy] at hp
      simp at hp
      subst hp
      exact cpl_at w _ (List.all_eq_true.1 hl _ (List.mem_of_getElem? hy))
    · cases h
  · cases h
  · rename_i h0 h1 h2
    injection h with h
    subst h
    refine cpl_at w _ ?_
    cases x <;> first | rfl | exact absurd rfl (h1 _) | exact absurd rfl (h2 _)

theorem Rel.ev (r : Rel C σ a w β) {o : Operand} {x : AV} (h : ev σ o = some x) : AVs (Mt C σ.h β) β w x (a.eval o) := by
  cases o with
  | tmp t =>
    obtain ⟨y, hy, hv⟩ := r.slots t x h
    have : a.eval (.tmp t) = y := by simp [Act.eval, hy]
    rw [this]
    exact hv
  | const v => exact cst_rep h
  | func f =>
    injection h with h
    subst h
    exact ⟨rfl, rfl⟩
  | global g => cases h

def AV.soft : AV → AV
  | .one .nil => .one (.p (.sl []))
  | x => x
theorem soft_rep {β : Map} {w : World} {F : Nat → Prop} {x : AV} {y : Value} (h : AV.rep β w F x y) : AV.rep β w F x.soft y := by
  unfold AV.soft
  split
  · rw [show y = _ from h]
    exact ⟨none, 0, 0, rfl, fit0, by simp [PL.rows]⟩
  · exact h
def evF (σ : AS) (o : Operand) : Option AV := match Aw.ev σ o with
  | some A => some A.soft
  | none => none
theorem Rel.evF (r : Rel C σ a w β) {o : Operand} {x : AV} (h : evF σ o = some x) : AVs (Mt C σ.h β) β w x (a.eval o) := by
  unfold Aw.evF at h
  split at h
  · rename_i A hA
    injection h with h
    subst h
    exact soft_rep (r.ev hA)
  · cases h
theorem Rel.ev_v (r : Rel C σ a w β) {o : Operand} {x : Value} (h : Aw.ev σ o = some (.one (.p (.v x)))) : a.eval o = x := (r.ev h).1

end Go.Proofs.YtbdgmondalkhlaaDoor.Aw
