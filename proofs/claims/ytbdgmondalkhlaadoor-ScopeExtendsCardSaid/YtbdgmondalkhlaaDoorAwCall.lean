
/- Calls, loops and what is told less.
   Conditions: none; generic in the program. -/
import Derived.Test.YtbdgmondalkhlaaDoorAwFn
namespace Go.Proofs.YtbdgmondalkhlaaDoor.Aw
open Go

variable {P : Program} {C : Ctx P} {T : TT} {σ : AS} {a : Act} {w w1 : World} {β β1 : Map} {ops : Array Oper} {i : Nat} {l : List Nat} {K : AS → Prop}

/-! ### 1. Calls -/
def evs (σ : AS) : List Operand → Option (List AV)
  | [] => some []
  | x :: r => match evF σ x, evs σ r with
    | some A, some l => some (A :: l)
    | _, _ => none
def callOf (ops : Array Oper) (i : Nat) (σ : AS) : Option (FuncId × Option Nat × List AV) := match ops[i]? with
  | some o => match gd ops σ o, o.op with
    | some true, .call c => match c.callee with
      | .value (.func f) => match evs σ c.args.toList with
        | some l => match o.dst with
          | some d => if d < σ.n then some (f, some d, l) else none
          | none => some (f, none, l)
        | none => none
      | .value (.tmp t) => match σ.s.lookup t with
        | some (.one (.p (.v (.func (.func f) fi ca)))) => if fi.size = 0 ∧ ca.size = 0 then (match evs σ c.args.toList with
          | some l => match o.dst with
            | some d => if d < σ.n then some (f, some d, l) else none
            | none => some (f, none, l)
          | none => none) else none
        | some (.one (.clo (.func f) caps)) => match evs σ c.args.toList with
          | some l => match o.dst with
            | some d => if d < σ.n then some (f, some d, l ++ caps.map fun x => .one (.ptr x.1 x.2)) else none
            | none => some (f, none, l ++ caps.map fun x => .one (.ptr x.1 x.2))
          | none => none
        | _ => none
      | _ => none
    | _, _ => none
  | none => none

def capsFit (bs : List Nat) : List (Nat × Nat) → List (Nat × Nat) → Prop
  | [], [] => True
  | x :: r, y :: s => (bs[x.1]? = some y.1 ∧ x.2 = y.2) ∧ capsFit bs r s
  | _, _ => False
theorem capsFit_get {bs : List Nat} : ∀ {xs ys : List (Nat × Nat)}, capsFit bs xs ys → ys.length = xs.length ∧ ∀ (i j o : Nat), xs[i]? = some (j, o) → ∃ b, bs[j]? = some b ∧ ys[i]? = some (b, o)
  | [], [], _ => ⟨rfl, fun i j o h => by simp at h⟩
  | [], _ :: _, h => h.elim
  | _ :: _, [], h => h.elim
  | x :: r, y :: s, h => by
    obtain ⟨g1, g2⟩ := capsFit_get h.2
    refine ⟨by simp [g1], fun i j o hi => ?_⟩
    cases i with
    | zero => simp at hi; subst hi; exact ⟨y.1, h.1.1, by simp; exact Prod.ext rfl h.1.2.symm⟩
    | succ i => obtain ⟨b, h1, h2⟩ := g2 i j o (by simpa using hi); exact ⟨b, h1, by simpa using h2⟩
def fits (bs : List Nat) : List AR → List AV → Prop
  | [], [] => True
  | x :: r, A :: s => (match x with
      | .pv B => A = B ∧ B.pure = true
      | .ptr j o => ∃ b, bs[j]? = some b ∧ A = .one (.ptr b o)
      | .clo fn caps => ∃ cs, A = .one (.clo fn cs) ∧ capsFit bs caps cs) ∧ fits bs r s
  | _, _ => False
def updH : List Nat → List (TypeId × List PL) → List (List PL) → List (Nat × HB)
  | b :: bs, x :: H, ps :: H' => (b, .box ⟨x.1, ps, []⟩) :: updH bs H H'
  | _, _, _ => []
def nodupB : List Nat → Bool
  | [] => true
  | b :: r => !(r.contains b) && nodupB r
def held (h : List (Nat × HB)) : List Nat → List (TypeId × List PL) → Prop
  | [], [] => True
  | b :: bs, x :: H => h.lookup b = some (.box ⟨x.1, x.2, []⟩) ∧ held h bs H
  | _, _ => False
def setD (σ : AS) (d : Option Nat) (A : AV) : AS := match d with
  | some d => σ.set d A
  | none => σ

theorem nodupB_ok : ∀ {bs : List Nat}, nodupB bs = true → ∀ (j j' b : Nat), bs[j]? = some b → bs[j']? = some b → j = j'
  | [], _, j, _, b, h, _ => by simp at h
  | x :: r, hn, j, j', b, h, h' => by
    simp only [nodupB, Bool.and_eq_true, Bool.not_eq_true'] at hn
    have hx : ∀ k, r[k]? = some x → False := fun k hk => by
      have := List.mem_of_getElem? hk
      simp [this] at hn
    cases j with
    | zero =>
      cases j' with
      | zero => rfl
      | succ j' =>
        simp at h h'
        subst h
        exact (hx j' h').elim
    | succ j =>
      cases j' with
      | zero =>
        simp at h h'
        subst h'
        exact (hx j h).elim
      | succ j' => rw [nodupB_ok hn.2 j j' b (by simpa using h) (by simpa using h')]
theorem held_get : ∀ {h : List (Nat × HB)} {bs : List Nat} {H : List (TypeId × List PL)}, held h bs H → bs.length = H.length ∧ ∀ (j b : Nat), bs[j]? = some b → ∃ x, H[j]? = some x ∧ h.lookup b = some (.box ⟨x.1, x.2, []⟩)
  | h, [], [], _ => ⟨rfl, fun j b hj => by simp at hj⟩
  | h, [], _ :: _, hh => hh.elim
  | h, _ :: _, [], hh => hh.elim
  | h, b :: bs, x :: H, hh => by
    obtain ⟨h1, h2⟩ := held_get hh.2
    refine ⟨by simp [h1], fun j c hj => ?_⟩
    cases j with
    | zero => simp at hj; subst hj; exact ⟨x, rfl, hh.1⟩
    | succ j => obtain ⟨y, hy, hl⟩ := h2 j c (by simpa using hj); exact ⟨y, by simpa using hy, hl⟩
theorem updH_look : ∀ {bs : List Nat} {H : List (TypeId × List PL)} {H' : List (List PL)} {h : List (Nat × HB)} {b : Nat} {x : HB}, bs.length = H.length → H'.length = H.length → (updH bs H H' ++ h).lookup b = some x →
    (∃ (j : Nat) (z : TypeId × List PL) (ps : List PL), bs[j]? = some b ∧ H[j]? = some z ∧ H'[j]? = some ps ∧ x = .box ⟨z.1, ps, []⟩) ∨ ((∀ j : Nat, bs[j]? ≠ some b) ∧ h.lookup b = some x)
  | [], H, H', h, b, x, _, _, hl => .inr ⟨fun j => by simp, by simpa [updH] using hl⟩
  | c :: bs, [], _, _, _, _, e, _, _ => by simp at e
  | c :: bs, _ :: _, [], _, _, _, _, e, _ => by simp at e
  | c :: bs, z :: H, ps :: H', h, b, x, e1, e2, hl => by
    rw [updH, List.cons_append] at hl
    by_cases e : b = c
    · subst e
      rw [lookup_cons_self] at hl
      injection hl with hl
      exact .inl ⟨0, z, ps, rfl, rfl, rfl, hl.symm⟩
    · rw [lookup_cons_ne _ _ e] at hl
      rcases updH_look (by simpa using e1) (by simpa using e2) hl with ⟨j, z', ps', g1, g2, g3, g4⟩ | ⟨g1, g2⟩
      · exact .inl ⟨j + 1, z', ps', by simpa using g1, by simpa using g2, by simpa using g3, g4⟩
      · refine .inr ⟨fun j hj => ?_, g2⟩
        cases j with
        | zero => simp at hj; exact e hj.symm
        | succ j => exact g1 j (by simpa using hj)

theorem evs_get : ∀ {xs : List Operand} {As : List AV}, evs σ xs = some As → xs.length = As.length ∧ ∀ (j : Nat) (A : AV), As[j]? = some A → ∃ x, xs[j]? = some x ∧ evF σ x = some A
  | [], As, h => by
    injection h with h
    subst h
    exact ⟨rfl, fun j A hj => by simp at hj⟩
  | x :: r, As, h => by
    unfold evs at h
    split at h
    · rename_i A s h1 h2
      injection h with h
      subst h
      obtain ⟨g1, g2⟩ := evs_get h2
      refine ⟨by simp [g1], fun j B hj => ?_⟩
      cases j with
      | zero => simp at hj; subst hj; exact ⟨x, rfl, h1⟩
      | succ j => obtain ⟨y, hy, he⟩ := g2 j B (by simpa using hj); exact ⟨y, by simpa using hy, he⟩
    · cases h
theorem fits_get {bs : List Nat} : ∀ {xs : List AR} {As : List AV}, fits bs xs As → xs.length = As.length ∧ ∀ (j : Nat) (x : AR), xs[j]? = some x → ∃ A, As[j]? = some A ∧ (match x with
      | .pv B => A = B ∧ B.pure = true
      | .ptr j o => ∃ b, bs[j]? = some b ∧ A = .one (.ptr b o)
      | .clo fn caps => ∃ cs, A = .one (.clo fn cs) ∧ capsFit bs caps cs)
  | [], [], _ => ⟨rfl, fun j x hj => by simp at hj⟩
  | [], _ :: _, h => h.elim
  | _ :: _, [], h => h.elim
  | x :: r, A :: s, h => by
    obtain ⟨g1, g2⟩ := fits_get h.2
    refine ⟨by simp [g1], fun j y hj => ?_⟩
    cases j with
    | zero => simp at hj; subst hj; exact ⟨A, rfl, h.1⟩
    | succ j => obtain ⟨B, hB, hm⟩ := g2 j y (by simpa using hj); exact ⟨B, by simpa using hB, hm⟩

theorem callOf_ok (r : Rel C σ a w β) {f : FuncId} {d : Option Nat} {As : List AV} (h : callOf ops i σ = some (f, d, As)) (hf : Callable P f) :
    ∃ o, ops[i]? = some o ∧ gd ops σ o = some true ∧ o.dst = d ∧ (∀ e, d = some e → e < σ.n) ∧ ∃ ys : Array Value, (execOp a.eval o).run P w = .ok (.enter f ys) w ∧ ys.size = As.length ∧
      ∀ (j : Nat) (A : AV) (y : Value), As[j]? = some A → ys[j]? = some y → AVs (Mt C σ.h β) β w A y := by
  have args : ∀ {c : Call} {As : List AV}, evs σ c.args.toList = some As → (c.args.map a.eval).size = As.length ∧ ∀ (j : Nat) (A : AV) (y : Value), As[j]? = some A → (c.args.map a.eval)[j]? = some y → AVs (Mt C σ.h β) β w A y := by
    intro c As he
    obtain ⟨g1, g2⟩ := evs_get he
    refine ⟨by simpa using g1, fun j A y hA hy => ?_⟩
    obtain ⟨x, hx, hex⟩ := g2 j A hA
    have hx' : c.args[j]? = some x := by simpa using hx
    rw [Array.getElem?_map, hx'] at hy
    simp at hy
    subst hy
    exact r.evF hex
  unfold callOf at h
  split at h
  · rename_i o ho
    split at h
    · rename_i c hg hop
      split at h
      · rename_i f' hc
        split at h
        · rename_i l' he
          obtain ⟨g1, g2⟩ := args he
          have hrun : ∀ {f'' : FuncId}, Callable P f'' → f'' = f' → (execOp a.eval o).run P w = .ok (.enter f'' (c.args.map a.eval)) w := fun hf'' e => by
            subst e
            simp [execOp, hop, resolve, hc, Act.eval, Deferred.ofValue, invoke, run_callFunc hf'']
          split at h
          · rename_i d' hd
            split at h
            · rename_i hn
              injection h with h
              injection h with h1 h2
              injection h2 with h2 h3
              subst h1 h2 h3
              exact ⟨o, ho, hg, hd, fun e he' => by injection he' with he'; exact he' ▸ hn, _, hrun hf rfl, g1, g2⟩
            · cases h
          · rename_i hd
            injection h with h
            injection h with h1 h2
            injection h2 with h2 h3
            subst h1 h2 h3
            exact ⟨o, ho, hg, hd, fun e he' => (by cases he'), _, hrun hf rfl, g1, g2⟩
        · cases h
      · rename_i t hc
        split at h
        · rename_i f' fi ca hs
          have h0 : fi.size = 0 ∧ ca.size = 0 := by
            rcases Decidable.em (fi.size = 0 ∧ ca.size = 0) with h0 | h0
            · exact h0
            · rw [if_neg h0] at h; cases h
          rw [if_pos h0] at h
          obtain rfl : fi = #[] := Array.eq_empty_of_size_eq_zero h0.1
          obtain rfl : ca = #[] := Array.eq_empty_of_size_eq_zero h0.2
          split at h
          · rename_i l' he
            obtain ⟨g1, g2⟩ := args he
            have hev : a.eval (.tmp t) = .func (.func f') #[] #[] := r.ev_v (o := .tmp t) hs
            have hrun : ∀ {f'' : FuncId}, Callable P f'' → f'' = f' → (execOp a.eval o).run P w = .ok (.enter f'' (c.args.map a.eval)) w := fun hf'' e => by
              subst e
              simp [execOp, hop, resolve, hc, hev, Deferred.ofValue, invoke, run_callFunc hf'']
            split at h
            · rename_i d' hd
              split at h
              · rename_i hn
                injection h with h
                injection h with h1 h2
                injection h2 with h2 h3
                subst h1 h2 h3
                exact ⟨o, ho, hg, hd, fun e he' => by injection he' with he'; exact he' ▸ hn, _, hrun hf rfl, g1, g2⟩
              · cases h
            · rename_i hd
              injection h with h
              injection h with h1 h2
              injection h2 with h2 h3
              subst h1 h2 h3
              exact ⟨o, ho, hg, hd, fun e he' => (by cases he'), _, hrun hf rfl, g1, g2⟩
          · cases h
        · rename_i f' caps hs
          split at h
          · rename_i l' he
            obtain ⟨g1, g2⟩ := args he
            obtain ⟨vs, hev, hn1, hcap⟩ := r.ev (o := .tmp t) hs
            have hrun : ∀ {f'' : FuncId}, Callable P f'' → f'' = f' → (execOp a.eval o).run P w = .ok (.enter f'' (c.args.map a.eval ++ vs)) w := fun hf'' e => by
              subst e
              simp [execOp, hop, resolve, hc, hev, Deferred.ofValue, invoke, run_callFunc hf'']
            have g3 : (c.args.map a.eval ++ vs).size = (l' ++ caps.map fun x => AV.one (.ptr x.1 x.2)).length := by simp only [Array.size_append, List.length_append, List.length_map, g1, hn1]
            have g4 : ∀ (j : Nat) (A : AV) (y : Value), (l' ++ caps.map fun x => AV.one (.ptr x.1 x.2))[j]? = some A → (c.args.map a.eval ++ vs)[j]? = some y → AVs (Mt C σ.h β) β w A y := by
              intro j A y hA hy
              rcases Nat.lt_or_ge j l'.length with hj | hj
              · rw [List.getElem?_append_left hj] at hA
                rw [Array.getElem?_append_left (by omega)] at hy
                exact g2 j A y hA hy
              · rw [List.getElem?_append_right hj, List.getElem?_map] at hA
                rw [Array.getElem?_append_right (by omega), g1] at hy
                cases hi : caps[j - l'.length]? with
                | none => rw [hi] at hA; cases hA
                | some x =>
                  rw [hi] at hA
                  injection hA with hA
                  subst hA
                  have := hcap (j - l'.length) x.1 x.2 hi
                  simp only [AVs, AV.rep, AL.rep]
                  cases hb : β x.1 with
                  | here g c' =>
                    rw [hb] at this
                    rw [this] at hy
                    injection hy with hy
                    exact hy.symm
                  | dead => trivial
                  | nil => trivial
            split at h
            · rename_i d' hd
              split at h
              · rename_i hn
                injection h with h
                injection h with h1 h2
                injection h2 with h2 h3
                subst h1 h2 h3
                exact ⟨o, ho, hg, hd, fun e he' => by injection he' with he'; exact he' ▸ hn, _, hrun hf rfl, g3, g4⟩
              · cases h
            · rename_i hd
              injection h with h
              injection h with h1 h2
              injection h2 with h2 h3
              subst h1 h2 h3
              exact ⟨o, ho, hg, hd, fun e he' => (by cases he'), _, hrun hf rfl, g3, g4⟩
          · cases h
        · cases h
      · cases h
    · cases h
  · cases h

/-- A call by contract. -/
theorem Ed.call {N : List Nat} {f : FuncId} {d : Option Nat} {As : List AV} {xs : List AR} {H : List (TypeId × List PL)} {post : AV → List (List PL) → Prop} (hf : Fn P f xs H post) (bs : List Nat) (h : callOf ops i σ = some (f, d, As)) (hfit : fits bs xs As) (hheld : held σ.h bs H)
    (hbs : nodupB bs = true) (hN : ∀ b ∈ bs, b ∈ N) (hK : ∀ r H', post r H' → r.pure = true → H'.length = H.length → K (setD { σ with h := updH bs H H' ++ σ.h } d r)) : Ed P C ops N i σ K := by
  intro a w β r Q
  obtain ⟨o, ho, hg, hd, hdn, ys, hrun, hys, hyv⟩ := callOf_ok r h hf.1
  obtain ⟨hl, hheld'⟩ := held_get hheld
  obtain ⟨fl, hfit'⟩ := fits_get hfit
  simp only [wpOp, ho, gd_ok r hg, if_true]
  refine .inl ?_
  simp only [Oper.wp, hrun, Oper.upon_enter]
  let gOf : Nat → Nat := fun b => match β b with
    | .here g _ => g
    | _ => 0
  have hgOf : ∀ b ∈ bs, ∃ c, β b = .here (gOf b) c := fun b hb => by
    obtain ⟨j, hj⟩ := List.getElem?_of_mem hb
    obtain ⟨x, _, hx⟩ := hheld' j b hj
    have := r.heap b _ hx
    cases e : β b with
    | here g c => exact ⟨c, by simp [gOf, e]⟩
    | nil => rw [e] at this; exact this.elim
    | dead => rw [e] at this; exact this.elim
  have hlook : ∀ (j g : Nat), (bs.map gOf)[j]? = some g → ∃ b c x, bs[j]? = some b ∧ H[j]? = some x ∧ σ.h.lookup b = some (.box ⟨x.1, x.2, []⟩) ∧ β b = .here g c := fun j g hj => by
    rw [List.getElem?_map] at hj
    cases hb : bs[j]? with
    | none => rw [hb] at hj; simp at hj
    | some b =>
      rw [hb] at hj
      simp at hj
      obtain ⟨x, h1, h2⟩ := hheld' j b hb
      obtain ⟨c, hc⟩ := hgOf b (List.mem_of_getElem? hb)
      exact ⟨b, c, x, rfl, h1, h2, by rw [← hj]; exact hc⟩
  have hmem : ∀ g, g ∈ bs.map gOf → live σ.h β g := fun g hg => by
    obtain ⟨j, hj⟩ := List.getElem?_of_mem hg
    obtain ⟨b, c, x, h1, h2, h3, h4⟩ := hlook j g hj
    exact ⟨b, _, c, h3, h4⟩
  refine (hf.2 (Mt C σ.h β) w ys (bs.map gOf) (by simp [hl]) ?_ ?_ ?_ r.glob ?_ (by rw [hys, ← fl]) ?_).mono ?_
  · intro j j' g h1 h2
    obtain ⟨b, c, x, p1, p2, p3, p4⟩ := hlook j g h1
    obtain ⟨b', c', x', q1, q2, q3, q4⟩ := hlook j' g h2
    have := r.apart b b' _ _ g c c' p3 q3 p4 q4
    subst this
    exact nodupB_ok hbs j j' b p1 q1
  · exact fun g hg => .inr (hmem g hg)
  · rintro k (hk | ⟨b, x, c, h1, h2⟩)
    · exact Nat.lt_of_lt_of_le (r.sub k hk) r.wlt
    · exact (r.young b x k c h1 h2).1
  · intro j x g hx hj
    obtain ⟨b, c, x', p1, p2, p3, p4⟩ := hlook j g hj
    rw [hx] at p2
    injection p2 with p2
    subst p2
    have hok := r.heap b _ p3
    rw [p4] at hok
    obtain ⟨arr, k1, k2, k3⟩ := hok
    exact ⟨arr, k1, PL.ats_mk (by simpa using k2) fun i p u hp hu => (k3 i (.p p) u (by simp [ovAt, hp]) (by simpa using hu)).1⟩
  · intro j x y hx hy
    obtain ⟨A, hA, hm⟩ := hfit' j x hx
    have hv := hyv j A y hA hy
    cases x with
    | pv B =>
      obtain ⟨rfl, hp⟩ := hm
      exact ⟨hp, hv.turn hp⟩
    | ptr k o' =>
      obtain ⟨b, hb, rfl⟩ := hm
      obtain ⟨c, hc⟩ := hgOf b (List.mem_of_getElem? hb)
      simp only [AVs, AV.rep, AL.rep, hc] at hv
      exact ⟨gOf b, by simp [hb], hv⟩
    | clo fn caps =>
      obtain ⟨cs, rfl, hcf⟩ := hm
      obtain ⟨hl2, hcg⟩ := capsFit_get hcf
      obtain ⟨vs, hy2, hn2, hv2⟩ := hv
      refine ⟨vs, hy2, hn2.trans hl2, fun i j o hi => ?_⟩
      obtain ⟨b, hb, hci⟩ := hcg i j o hi
      obtain ⟨c, hc⟩ := hgOf b (List.mem_of_getElem? hb)
      have := hv2 i b o hci
      simp only [hc] at this
      exact ⟨gOf b, by simp [hb], this⟩
  · rintro e w' ⟨res, H', y, rfl, hpost, hpure, hres, hl', hbx, hst⟩
    refine ⟨_, β, hK res H' hpost hpure hl', ?_⟩
    have hlive : ∀ k, live (updH bs H H' ++ σ.h) β k → live σ.h β k := by
      rintro k ⟨b, x, c, h1, h2⟩
      rcases updH_look hl hl' h1 with ⟨j, z, ps, g1, g2, g3, g4⟩ | ⟨g1, g2⟩
      · obtain ⟨x', p1, p2⟩ := hheld' j b g1
        exact ⟨b, _, c, p2, h2⟩
      · exact ⟨b, x, c, g2, h2⟩
    have hgood : ∀ k, good (Mt C σ.h β) w' k → good (Mt C (updH bs H H' ++ σ.h) β) w' k ∧ w'.heap[k]? = w'.heap[k]? := fun k hk => ⟨⟨hk.1, fun hm => hk.2 (hm.imp id (hlive k))⟩, rfl⟩
    have hold : ∀ b x, (updH bs H H' ++ σ.h).lookup b = some x → ∃ x', σ.h.lookup b = some x' := fun b x hb => by
      rcases updH_look hl hl' hb with ⟨j, z, ps, g1, g2, g3, g4⟩ | ⟨g1, g2⟩
      · obtain ⟨x', p1, p2⟩ := hheld' j b g1
        exact ⟨_, p2⟩
      · exact ⟨x, g2⟩
    have r1 : Rel C { σ with h := updH bs H H' ++ σ.h } a w' β := by
      refine r.turn (hst.mono fun k _ hk => hmem k hk) r.pbl (fun _ => .inl rfl) (fun k _ => hlive k) ?_ ?_ ?_
      · intro b x hb
        rcases updH_look hl hl' hb with ⟨j, z, ps, g1, g2, g3, rfl⟩ | ⟨g1, g2⟩
        · obtain ⟨c, hc⟩ := hgOf b (List.mem_of_getElem? g1)
          obtain ⟨arr, k1, k2⟩ := hbx j z ps (gOf b) g2 g3 (by simp [g1])
          refine .inr ?_
          rw [hc]
          refine ⟨arr, k1, by simpa using (PL.ats_length k2), fun i q u hq hu => ?_⟩
          simp only [ovAt, List.lookup_nil] at hq
          cases hp : ps[i]? with
          | none => simp [hp] at hq
          | some p =>
            simp [hp] at hq
            subst hq
            obtain ⟨u', hu', hat⟩ := PL.ats_get k2 hp
            have : u' = u := by
              have h3 : arr.toList[i]? = some u := by simpa using hu
              rw [hu'] at h3
              injection h3
            subst this
            exact ⟨PL.at_move hgood p hat, PL.at_leaf hat⟩
        · refine .inl ⟨g2, rfl, fun g c hg' => hst.same g (r.young b x g c g2 hg').1 fun hm => ?_⟩
          obtain ⟨j, hj⟩ := List.getElem?_of_mem hm
          obtain ⟨b', c', x', p1, p2, p3, p4⟩ := hlook j g hj
          have := r.apart b b' _ _ g c c' g2 p3 hg' p4
          subst this
          exact g1 j p1
      · intro b x g c hb hg'
        obtain ⟨x', hx'⟩ := hold b x hb
        have := r.young b x' g c hx' hg'
        exact ⟨Nat.lt_of_lt_of_le this.1 hst.size, this.2⟩
      · intro b b' x x' g c c' h1 h2 l1 l2
        obtain ⟨y1, k1⟩ := hold b x h1
        obtain ⟨y2, k2⟩ := hold b' x' h2
        exact r.apart b b' y1 y2 g c c' k1 k2 l1 l2
    have hmv : Mv N σ.h β w (updH bs H H' ++ σ.h) β w' := ⟨hst.mono fun k _ hk => by
        obtain ⟨j, hj⟩ := List.getElem?_of_mem hk
        obtain ⟨b, c, x, p1, p2, p3, p4⟩ := hlook j k hj
        exact ⟨b, hN b (List.mem_of_getElem? p1), _, c, p3, p4⟩, fun k ⟨b, hb, x, c, h1, h2⟩ _ => by
        obtain ⟨x', hx'⟩ := hold b x h1
        exact ⟨b, hb, x', c, hx', h2⟩⟩
    rw [hd]
    cases d with
    | none => exact ⟨r1, hmv⟩
    | some d => exact ⟨r1.put (hdn d rfl) (AV.rep_turn hres hgood (fun _ => .inr (.inr (AV.pure_no hpure _)))), hmv⟩

theorem AwOps.call {f : FuncId} {d : Option Nat} {As : List AV} {xs : List AR} {H : List (TypeId × List PL)} {post : AV → List (List PL) → Prop} (hf : Fn P f xs H post) (bs : List Nat) (h : callOf ops i σ = some (f, d, As)) (hfit : fits bs xs As) (hheld : held σ.h bs H)
    (hbs : nodupB bs = true) (hK : ∀ r H', post r H' → r.pure = true → H'.length = H.length → AwOps P C ops l (setD { σ with h := updH bs H H' ++ σ.h } d r) K) : AwOps P C ops (i :: l) σ K :=
  AwOps.ed (N := bs) (Ed.call hf bs h hfit hheld hbs (fun _ hb => hb) hK)

/-! ### 2. What is told less; loops -/
theorem Rel.less {τ : AS} (r : Rel C σ a w β) (hn : τ.n = σ.n) (hs : ∀ t x, τ.s.lookup t = some x → σ.s.lookup t = some x) (hh : ∀ b x, τ.h.lookup b = some x → σ.h.lookup b = some x) : Rel C τ a w β := by
  have hlive : ∀ k, live τ.h β k → live σ.h β k := fun k ⟨b, x, c, h1, h2⟩ => ⟨b, x, c, hh b x h1, h2⟩
  have hgood : ∀ k, good (Mt C σ.h β) w k → good (Mt C τ.h β) w k ∧ w.heap[k]? = w.heap[k]? := fun k hk => ⟨⟨hk.1, fun hm => hk.2 (hm.imp id (hlive k))⟩, rfl⟩
  refine ⟨r.defers, r.step, r.sub, r.pbM, r.pbhi, r.pbl, ?_, fun b x g c h1 h2 => r.young b x g c (hh b x h1) h2, fun b b' x x' g c c' h1 h2 => r.apart b b' x x' g c c' (hh b x h1) (hh b' x' h2), by rw [r.size, hn], ?_⟩
  · intro b x hb
    exact HB.ok_move (r.heap b x (hh b x hb)) (St.refl _ _) (fun k _ hm => hm.imp id (hlive k)) (Tells.refl _ _) (fun _ _ _ => rfl)
  · intro t x hx
    obtain ⟨y, hy, hv⟩ := r.slots t x (hs t x hx)
    exact ⟨y, hy, AV.rep_turn hv hgood (Tells.refl _ _)⟩

def lessS (s : List (Nat × AV)) : List (Nat × AV) → Prop
  | [] => True
  | (t, x) :: r => s.lookup t = some x ∧ lessS s r
def lessH (h : List (Nat × HB)) : List (Nat × HB) → Prop
  | [] => True
  | (b, x) :: r => h.lookup b = some x ∧ lessH h r
theorem lessS_ok {s : List (Nat × AV)} : ∀ {s' : List (Nat × AV)}, lessS s s' → ∀ t x, s'.lookup t = some x → s.lookup t = some x
  | [], _, t, x, h => by simp at h
  | (t', x') :: r, hl, t, x, h => by
    by_cases e : t = t'
    · subst e
      rw [lookup_cons_self] at h
      injection h with h
      rw [← h]
      exact hl.1
    · rw [lookup_cons_ne _ _ e] at h
      exact lessS_ok hl.2 t x h
theorem lessH_ok {s : List (Nat × HB)} : ∀ {s' : List (Nat × HB)}, lessH s s' → ∀ t x, s'.lookup t = some x → s.lookup t = some x
  | [], _, t, x, h => by simp at h
  | (t', x') :: r, hl, t, x, h => by
    by_cases e : t = t'
    · subst e
      rw [lookup_cons_self] at h
      injection h with h
      rw [← h]
      exact hl.1
    · rw [lookup_cons_ne _ _ e] at h
      exact lessH_ok hl.2 t x h
/-- σ tells all that τ tells. -/
def Less (σ τ : AS) : Prop := τ.n = σ.n ∧ lessS σ.s τ.s ∧ lessH σ.h τ.h
theorem Less.rel {τ : AS} (h : Less σ τ) (hr : RelE C σ a w) : RelE C τ a w := let ⟨β, r⟩ := hr; ⟨β, r.less h.1 (lessS_ok h.2.1) (lessH_ok h.2.2)⟩

theorem Aw.less {τ : AS} {c : Code} {Q : Exit → AS → Prop} (h : Less σ τ) (hc : Aw P C c τ Q) : Aw P C c σ Q := fun a w hr => hc a w (h.rel hr)

/-- A loop: st says what stands at a round's head, by an index that an order makes fall. -/
theorem Aw.loop {ι : Type} {c : Code} {Q : Exit → AS → Prop} (st : ι → AS) (ok : ι → Prop) (μ : ι → Nat) (i0 : ι) (h0 : Less σ (st i0)) (hok : ok i0)
    (hr : ∀ i, ok i → Aw P C c (st i) (thn (fun σ' => ∃ i', ok i' ∧ μ i' < μ i ∧ Less σ' (st i')) Q)) : Aw P C (.loop c) σ Q := by
  intro a w hrel b k cs
  have key : ∀ n i a w, μ i = n → ok i → RelE C (st i) a w →
      ∃ e a' w', (∃ σ', Q e σ' ∧ RelE C σ' a' w') ∧ Arrives P (lone (b.at a (.code c :: .inLoop c :: k)) cs w) b k cs e a' w' := by
    intro n
    induction n using Nat.strongRecOn with
    | _ n ih =>
      intro i a w hn hi hra
      obtain ⟨e, a1, w1, ⟨σ', hq, hrel'⟩, harr⟩ := hr i hi a w hra b (.inLoop c :: k) cs
      cases e with
      | normal =>
        obtain ⟨i', hi', hlt, hle⟩ := hq
        obtain ⟨e2, a2, w2, hq2, harr2⟩ := ih (μ i') (hn ▸ hlt) i' a1 w1 rfl hi' (hle.rel hrel')
        exact ⟨e2, a2, w2, hq2, .of_steps (Steps.trans harr (.one step_inLoop)) harr2⟩
      | exit id => exact ⟨_, a1, w1, ⟨σ', hq, hrel'⟩, .pass (x := .inLoop c) rfl (fun _ _ => .inl (by simp)) harr⟩
      | goto l => exact ⟨_, a1, w1, ⟨σ', hq, hrel'⟩, .pass (x := .inLoop c) rfl (fun _ _ => .inl (by simp)) harr⟩
      | ret => exact ⟨_, a1, w1, ⟨σ', hq, hrel'⟩, .pass (x := .inLoop c) rfl (fun _ _ => .inl (by simp)) harr⟩
      | panic ch => exact ⟨_, a1, w1, ⟨σ', hq, hrel'⟩, .pass (x := .inLoop c) rfl (fun _ _ => .inl (by simp)) harr⟩
      | outgrown => exact ⟨_, a1, w1, ⟨σ', hq, hrel'⟩, .pass (x := .inLoop c) rfl (fun _ _ => .inl (by simp)) harr⟩
  obtain ⟨e, a', w', hq, harr⟩ := key _ i0 a w rfl hok (h0.rel hrel)
  exact ⟨e, a', w', hq, .of_steps (.one step_loop) harr⟩
end Go.Proofs.YtbdgmondalkhlaaDoor.Aw
