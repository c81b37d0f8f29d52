
/- Contracts of functions that return a row, or a variable, of the caller's own.
   Conditions: none; generic in the program. -/
import Derived.Test.YtbdgmondalkhlaaDoorAwSlice
namespace Go.Proofs.YtbdgmondalkhlaaDoor.Aw
open Go

variable {P : Program} {C : Ctx P} {T : TT} {σ τ : AS} {a : Act} {w w1 : World} {β β1 : Map} {ops : Array Oper} {i : Nat} {l : List Nat} {K : AS → Prop} {F : Nat → Prop}

/-- What is handed back: a row (perhaps the nil slice), or a variable. -/
inductive OR where
  | row (ty sz : Nat) (es : List (List PL))
  | box (ty : Nat) (ps : List PL)
def OR.hb : OR → HB
  | .row ty sz es => .row ty sz true es
  | .box ty ps => .box ⟨ty, ps, []⟩
def OR.av (d : Nat) : OR → AV
  | .row _ _ es => .one (.own d es.length)
  | .box _ _ => .one (.ptr d 0)
def OR.at (M : Nat → Prop) (w w' : World) (o : OR) (y : Value) : Prop := ∃ loc, HB.ok (fun k => M k ∨ ∃ c, loc = .here k c) (fun _ => loc) w' o.hb loc ∧ AV.rep (fun _ => loc) w' (fun _ => False) (o.av 0) y ∧ ∀ g c, loc = .here g c → w.heap.size ≤ g ∧ g < w'.heap.size

/-- A function whose result is the caller's own. -/
def FnO (P : Program) (f : FuncId) (args : List AV) (post : OR → Prop) : Prop :=
  Callable P f ∧ ∀ (M : Nat → Prop) (w : World) (ys : Array Value), (∀ k, M k → k < w.heap.size) → Glob P M w → ys.size = args.length → (∀ (j : Nat) (x : AV) (y : Value), args[j]? = some x → ys[j]? = some y → x.pure = true ∧ AVs M (fun _ => .dead) w x y) →
    Calls P f ys w fun e w' => ∃ o y, e = .returned y ∧ post o ∧ OR.at M w w' o y ∧ St (fun _ => False) w w'

theorem OR.ok_turn {M M1 : Nat → Prop} {o : OR} {loc : Loc} (h : HB.ok M β w o.hb loc) (hg : ∀ k, good M w k → good M1 w k ∧ w.heap[k]? = w.heap[k]?) : HB.ok M1 β1 w o.hb loc := by
  cases o with
  | row ty sz es =>
    cases loc with
    | dead => exact h.elim
    | nil => exact h
    | here g c =>
      obtain ⟨arr, fz, h1, h2, h3, h4, h5, h6, h7, h8, h9⟩ := h
      exact ⟨arr, fz, h1, h2, h3, h4, h5, h6, h7, h8, PL.ats_move hg _ h9⟩
  | box ty ps =>
    cases loc with
    | dead => exact h.elim
    | nil => exact h.elim
    | here g c =>
      obtain ⟨arr, h1, h2, h3⟩ := h
      refine ⟨arr, h1, h2, fun j q u hq hu => ?_⟩
      have h4 := h3 j q u hq hu
      simp only [ovAt, List.lookup_nil] at hq
      cases hp : ps[j]? with
      | none => simp [hp] at hq
      | some p =>
        simp [hp] at hq
        subst hq
        exact ⟨PL.at_move hg p h4.1, h4.2⟩

/-- A call whose result is a place of the caller's own. -/
theorem Ed.callO {N : List Nat} {f : FuncId} {n d : Nat} {As : List AV} {s : List (Nat × AV)} {h : List (Nat × HB)} {post : OR → Prop} (hf : FnO P f As post) (hc : callOf ops i ⟨n, s, h⟩ = some (f, some d, As)) (hp : As.all AV.pure = true)
    (hd : Nat.blt d 1000 = true) (hno : AS.no d ⟨n, s, h⟩ = true) (hK : ∀ o, post o → K ⟨n, (d, o.av d) :: s, (d, o.hb) :: h⟩) : Ed P C ops N i ⟨n, s, h⟩ K := by
  intro a w β r Q
  obtain ⟨o, ho, hg, hdst, hdn, ys, hrun, hys, hyv⟩ := callOf_ok r hc hf.1
  simp only [wpOp, ho, gd_ok r hg, if_true]
  refine .inl ?_
  simp only [Oper.wp, hrun, Oper.upon_enter]
  have hlt : ∀ k, Mt C h β k → k < w.heap.size := by
    rintro k (hk | ⟨b, x, c, h1, h2⟩)
    · exact Nat.lt_of_lt_of_le (r.sub k hk) r.wlt
    · exact (r.young b x k c h1 h2).1
  refine (hf.2 (Mt C h β) w ys hlt r.glob hys fun j x y hx hy => ?_).mono ?_
  · have hpx := List.all_eq_true.1 hp x (List.mem_of_getElem? hx)
    exact ⟨hpx, (hyv j x y hx hy).turn hpx⟩
  · rintro e w' ⟨oo, y, rfl, hpost, ⟨loc, hok, hav, hloc⟩, hst⟩
    have hob : ∀ b, (none : Option Nat) = some b → b < 1000 ∧ ∃ x0, h.lookup b = some x0 := fun b e => by cases e
    have hloc' : ∀ g c, loc = .here g c → g < w'.heap.size ∧ (w.heap.size ≤ g ∨ ∃ b c', (none : Option Nat) = some b ∧ β b = .here g c') := fun g c e => ⟨(hloc g c e).2, .inl (hloc g c e).1⟩
    have hst' : St (fun k => ∃ b c, (none : Option Nat) = some b ∧ β b = .here k c) w w' := hst.mono fun _ _ h => h.elim
    have r1 := r.row (d := d) (ob := none) (x := oo.hb) (loc := loc) hno (by simpa using hd) hob hst' hloc' (OR.ok_turn hok fun k hk => ⟨⟨hk.1, fun hm => hk.2 ?_⟩, rfl⟩)
    · refine ⟨_, _, hK oo hpost, ?_, row_mv (σ := ⟨n, s, h⟩) hst' hloc' hob (fun b e => by cases e)⟩
      rw [hdst]
      refine r1.put (hdn d rfl) ?_
      cases oo with
      | row ty sz es =>
        simp only [OR.av, AVs, AV.rep, AL.rep, upd_self] at hav ⊢
        exact hav
      | box ty ps =>
        simp only [OR.av, AVs, AV.rep, AL.rep, upd_self] at hav ⊢
        exact hav
    · rcases hm with hm | ⟨b, x', cap, hb, hl⟩
      · exact .inl (.inl hm)
      · by_cases e : b = d
        · subst e
          rw [upd_self] at hl
          exact .inr ⟨cap, hl⟩
        · rw [lookup_cons_ne _ _ e] at hb
          rw [upd_ne _ _ e] at hl
          exact .inl (.inr ⟨b, x', cap, hb, hl⟩)

/-- What stands when such a function is left: slot t holds the row, or the variable. -/
def LeftO (t : Nat) (post : OR → Prop) (σ : AS) : Prop := ∃ b, b < 1000 ∧
  ((∃ ty sz es m, σ.s.lookup t = some (.one (.own b m)) ∧ σ.h.lookup b = some (.row ty sz true es) ∧ m = es.length ∧ post (.row ty sz es)) ∨
   (∃ ty ps, σ.s.lookup t = some (.one (.ptr b 0)) ∧ σ.h.lookup b = some (.box ⟨ty, ps, []⟩) ∧ post (.box ty ps)))
def finO (t : Nat) (post : OR → Prop) : Exit → AS → Prop
  | .normal, σ => LeftO t post σ
  | .ret, σ => LeftO t post σ
  | _, _ => False

theorem FnO.intro {f : FuncId} {fn : Func} {c : Code} {t n : Nat} {args : List AV} {post : OR → Prop}
    (hf : P.funcs[f]? = some fn) (hname : (fn.name == "runtime.NumGoroutine") = false) (hb : fn.body = some c) (hrs : fn.results = #[.tmp t]) (hn : fn.ntmps = n) (hargs : Nat.ble args.length n = true)
    (h : ∀ C : Ctx P, Aw P C c ⟨n, argS 0 (args.map AR.pv), []⟩ (finO t post)) : FnO P f args post := by
  refine ⟨⟨fn, hf, hname, by rw [hb]; rfl⟩, ?_⟩
  replace hargs := Nat.le_of_ble_eq_true hargs
  intro M w ys hMlt hG hys harg
  let C : Ctx P := ⟨w, M, [], hG⟩
  have hlive : ∀ k, ¬ live [] (fun _ => Loc.dead) k := by rintro k ⟨b, x, cap, h1, h2⟩; cases h1
  have hgood : ∀ k, good M w k → good (Mt C [] (fun _ => .dead)) w k ∧ w.heap[k]? = w.heap[k]? := fun k hk => ⟨⟨hk.1, fun hm => hk.2 (hm.elim id fun hl => (hlive k hl).elim)⟩, rfl⟩
  have hrel : Rel C ⟨n, argS 0 (args.map AR.pv), []⟩ { tmps := ys ++ Array.replicate (fn.ntmps - ys.size) undef, defers := [] } w (fun _ => .dead) := by
    refine ⟨rfl, St.refl _ _, hMlt, fun b g h => (by cases h), fun b g h => (by cases h), fun b g h => (by cases h), fun b x hx => (by cases hx), fun b x g c' hx => (by cases hx), fun b b' x x' g c1 c2 hx => (by cases hx), ?_, ?_⟩
    · show (ys ++ Array.replicate (fn.ntmps - ys.size) undef).size = n
      simp [hys]
      omega
    · intro t x hx
      obtain ⟨j, z, hz, e, rfl⟩ := argS_look hx
      rw [List.getElem?_map] at hz
      cases ha : args[j]? with
      | none => rw [ha] at hz; cases hz
      | some A =>
        rw [ha] at hz
        simp at hz
        subst hz
        have hj : j < ys.size := by rw [hys]; exact getElem?_prop ha
        rw [Nat.zero_add] at e
        subst e
        have hrep := harg t A ys[t] ha (by simp [hj])
        refine ⟨ys[t], by rw [Array.getElem?_append_left hj]; simp [hj], ?_⟩
        exact AV.rep_turn hrep.2 hgood (fun _ => .inr (.inr (AV.pure_no hrep.1 _)))
  refine calls_of_wp hf hb (wp_mono (h C _ w ⟨_, hrel⟩) ?_)
  rintro e a' w' ⟨σ', hfin, β', r'⟩
  have key : LeftO t post σ' → a'.defers = [] ∧ ∃ v, (results fn a'.tmps).run P w' = .ok v w' ∧ ∃ o y, Ending.returned v = .returned y ∧ post o ∧ OR.at M w w' o y ∧ St (fun _ => False) w w' := by
    rintro ⟨b, hlo, hl⟩
    have hst : St (fun _ => False) w w' := r'.step.mono fun k _ ⟨b, hbk⟩ => by cases hbk
    have hres : ∀ y, a'.tmps[t]? = some y → (results fn a'.tmps).run P w' = .ok y w' := fun y hy => by
      simp [results, hrs, hy]
    have hyoung : ∀ x g c, σ'.h.lookup b = some x → β' b = .here g c → w.heap.size ≤ g ∧ g < w'.heap.size := fun x g c h1 h2 => by
      have := r'.young b x g c h1 h2
      refine ⟨?_, this.1⟩
      rcases this.2 with h | h
      · exact h
      · cases h
    have hgd : ∀ x, σ'.h.lookup b = some x → ∀ k, good (Mt C σ'.h β') w' k → good (fun k => M k ∨ ∃ c, β' b = .here k c) w' k ∧ w'.heap[k]? = w'.heap[k]? := fun x hx k hk => ⟨⟨hk.1, fun hm => hk.2 (hm.imp id fun ⟨c, hc⟩ => ⟨b, x, c, hx, hc⟩)⟩, rfl⟩
    rcases hl with ⟨ty, sz, es, m, h1, h2, rfl, h4⟩ | ⟨ty, ps, h1, h2, h4⟩
    · obtain ⟨y, hy, hv⟩ := r'.slots t _ h1
      refine ⟨r'.defers, y, hres y hy, _, y, rfl, h4, ⟨β' b, OR.ok_turn (o := .row ty sz es) (r'.heap b _ h2) (hgd _ h2), ?_, fun g c e => hyoung _ g c h2 e⟩, hst⟩
      simp only [OR.av, AVs, AV.rep, AL.rep] at hv ⊢
      exact hv
    · obtain ⟨y, hy, hv⟩ := r'.slots t _ h1
      refine ⟨r'.defers, y, hres y hy, _, y, rfl, h4, ⟨β' b, OR.ok_turn (o := .box ty ps) (r'.heap b _ h2) (hgd _ h2), ?_, fun g c e => hyoung _ g c h2 e⟩, hst⟩
      simp only [OR.av, AVs, AV.rep, AL.rep] at hv ⊢
      exact hv
  cases e with
  | normal => exact key hfin
  | ret => exact key hfin
  | exit id => exact hfin.elim
  | goto l => exact hfin.elim
  | panic ch => exact hfin.elim
  | outgrown => exact hfin.elim
end Go.Proofs.YtbdgmondalkhlaaDoor.Aw
