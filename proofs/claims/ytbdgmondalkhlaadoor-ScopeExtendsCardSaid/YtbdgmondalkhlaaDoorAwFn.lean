
/- Contracts of functions over abstract states: how a function is entered and left, how it is called.
   Conditions: none; generic in the program. -/
import Derived.Test.YtbdgmondalkhlaaDoorAwMem
namespace Go.Proofs.YtbdgmondalkhlaaDoor.Aw
open Go

variable {P : Program} {C : Ctx P} {T : TT} {σ : AS} {a : Act} {w w1 : World} {β β1 : Map} {ops : Array Oper} {i : Nat} {l : List Nat} {K : AS → Prop}

def AL.pure : AL → Bool
  | .p _ => true
  | _ => false
def TV.pure : TV → Bool
  | .one x => x.pure
  | .agg _ => true
def AV.pure : AV → Bool
  | .one x => x.pure
  | .agg _ => true
  | .mix _ _ => false
  | .tup l => l.all TV.pure
theorem AL.pure_no {x : AL} (h : x.pure = true) (d : Nat) : x.no d = true := by cases x <;> first | rfl | cases h
theorem AV.pure_no {x : AV} (h : x.pure = true) (d : Nat) : x.no d = true := by
  cases x with
  | one x => exact AL.pure_no h d
  | agg ps => rfl
  | mix ps ov => cases h
  | tup l =>
    simp only [AV.pure, List.all_eq_true] at h
    simp only [AV.no, List.all_eq_true]
    intro y hy
    have := h y hy
    cases y with
    | one x => exact AL.pure_no this d
    | agg ps => rfl
theorem AVs.turn {M : Nat → Prop} {x : AV} {y : Value} (h : AVs M β w x y) (hp : x.pure = true) : AVs M β1 w x y :=
  AV.rep_turn h (fun _ hk => ⟨hk, rfl⟩) (fun _ => .inr (.inr (AV.pure_no hp _)))

/-- An argument: a value, or the place of cell o in the variable number j that is handed over. -/
inductive AR where
  | pv (x : AV)
  | ptr (j o : Nat)
  /-- A function value with places of variables that are handed over. -/
  | clo (fn : Go.Fn) (caps : List (Nat × Nat))

def BoxAt (M : Nat → Prop) (w : World) (t : TypeId) (ps : List PL) (g : Nat) : Prop := ∃ arr, w.heap[g]? = some (.cells arr t (0, 0)) ∧ PL.ats w (good M w) ps arr.toList
def AR.rep (M : Nat → Prop) (w : World) (gs : List Nat) : AR → Value → Prop
  | .pv x, y => x.pure = true ∧ AVs M (fun _ => .dead) w x y
  | .ptr j o, y => ∃ g, gs[j]? = some g ∧ y = .pointer (some ⟨g, o, none⟩)
  | .clo fn caps, y => ∃ vs : Array Value, y = .func fn #[] vs ∧ vs.size = caps.length ∧ ∀ (i j o : Nat), caps[i]? = some (j, o) → ∃ g, gs[j]? = some g ∧ vs[i]? = some (.pointer (some ⟨g, o, none⟩))

/-- A function of the program with a body of its own. -/
def Callable (P : Program) (f : FuncId) : Prop := ∃ fn, P.funcs[f]? = some fn ∧ (fn.name == "runtime.NumGoroutine") = false ∧ fn.body.isNone = false
theorem run_callFunc {f : FuncId} (h : Callable P f) (args : Array Value) : (callFunc f args).run P w = .ok (.enter f args) w := by
  obtain ⟨fn, h1, h2, h3⟩ := h
  have h2' : ¬ fn.name = "runtime.NumGoroutine" := by simpa using h2
  have h3' : ¬ fn.body = none := fun e => by rw [e] at h3; cases h3
  simp [callFunc, program, Sem.run, h1, h2', h3']

/-- What a function does: from arguments and variables handed over to a result and what the variables then hold. -/
def Fn (P : Program) (f : FuncId) (args : List AR) (H : List (TypeId × List PL)) (post : AV → List (List PL) → Prop) : Prop :=
  Callable P f ∧ ∀ (M : Nat → Prop) (w : World) (ys : Array Value) (gs : List Nat), gs.length = H.length → (∀ (j j' g : Nat), gs[j]? = some g → gs[j']? = some g → j = j') → (∀ g ∈ gs, M g) → (∀ k, M k → k < w.heap.size) → Glob P M w →
    (∀ (j : Nat) (x : TypeId × List PL) (g : Nat), H[j]? = some x → gs[j]? = some g → BoxAt M w x.1 x.2 g) →
    ys.size = args.length → (∀ (j : Nat) (x : AR) (y : Value), args[j]? = some x → ys[j]? = some y → AR.rep M w gs x y) →
    Calls P f ys w fun e w' => ∃ r H' y, e = .returned y ∧ post r H' ∧ r.pure = true ∧ AVs M (fun _ => .dead) w' r y ∧ H'.length = H.length ∧
      (∀ (j : Nat) (x : TypeId × List PL) (ps : List PL) (g : Nat), H[j]? = some x → H'[j]? = some ps → gs[j]? = some g → BoxAt M w' x.1 ps g) ∧ St (fun k => k ∈ gs) w w'

theorem Fn.mono {f : FuncId} {args : List AR} {H : List (TypeId × List PL)} {post post' : AV → List (List PL) → Prop} (h : Fn P f args H post) (hp : ∀ r H', post r H' → post' r H') : Fn P f args H post' :=
  ⟨h.1, fun M w ys gs a1 a2 a3 a4 a0 a5 a6 a7 => (h.2 M w ys gs a1 a2 a3 a4 a0 a5 a6 a7).mono fun _ _ ⟨r, H', y, e, p, q⟩ => ⟨r, H', y, e, hp r H' p, q⟩⟩

/-! ### Results -/
def resOne (T : TT) (σ : AS) : ResultVar → Option TV
  | .tmp t => match σ.s.lookup t with
    | some (.one (.p q)) => some (.one (.p q))
    | some (.one .nil) => some (.one (.p (.sl [])))
    | some (.agg ps) => some (.agg ps)
    | _ => none
  | .cell t ty => match T.lookup ty, σ.s.lookup t with
    | some i, some (.one (.ptr b o)) => match σ.h.lookup b with
      | some (.box B) => match takeOv i B.ps B.ov o with
        | some (.one (.p q)) => some (.one (.p q))
        | some (.one .nil) => some (.one (.p (.sl [])))
        | some (.agg ps) => some (.agg ps)
        | _ => none
      | _ => none
    | _, _ => none
def resL (T : TT) (σ : AS) : List ResultVar → Option (List TV)
  | [] => some []
  | x :: r => match resOne T σ x, resL T σ r with
    | some y, some l => some (y :: l)
    | _, _ => none
def resV (T : TT) (σ : AS) (rs : List ResultVar) : Option AV := match resL T σ rs with
  | some [x] => some (tv x)
  | some l => some (.tup l)
  | none => none

def resSem (tmps : Array Value) : ResultVar → Sem Value
  | .tmp t => pure (tmps.getD t undef)
  | .cell a t => do loadVar t (← asAddr (tmps.getD a undef))

theorem nil_sl {F : Nat → Prop} {y : Value} (h : y = .slice none 0 0) : PL.at w F (.sl []) y := by
  rw [h]
  exact ⟨none, 0, 0, rfl, fit0, by simp [PL.rows]⟩

theorem resOne_ok (hT : TT.ok P T) (r : Rel C σ a w β) {x : ResultVar} {y : TV} (h : resOne T σ x = some y) : y.pure = true ∧ ∃ v, (resSem a.tmps x).run P w = .ok v w ∧ TV.rep β w (good (Mt C σ.h β) w) y v := by
  unfold resOne at h
  split at h
  · rename_i t
    split at h
    · rename_i q hq
      injection h with h
      subst h
      obtain ⟨v, hv, hr⟩ := r.slots t _ hq
      exact ⟨rfl, v, by simp [resSem, hv], hr⟩
    · rename_i hq
      injection h with h
      subst h
      obtain ⟨v, hv, hr⟩ := r.slots t _ hq
      exact ⟨rfl, v, by simp [resSem, hv], nil_sl hr⟩
    · rename_i ps hq
      injection h with h
      subst h
      obtain ⟨v, hv, hr⟩ := r.slots t _ hq
      exact ⟨rfl, v, by simp [resSem, hv], hr⟩
    · cases h
  · rename_i t ty
    split at h
    · rename_i i b o hi hs
      split at h
      · rename_i B hb
        obtain ⟨v, hv, hr⟩ := r.slots t _ hs
        have hok := r.heap b _ hb
        simp only [AVs, AV.rep, AL.rep] at hr
        cases hl : β b with
        | here g c =>
          rw [hl] at hr hok
          split at h
          · rename_i q hq
            injection h with h
            subst h
            obtain ⟨z, hz, hzr⟩ := load_box (hT _ _ hi) hok hq
            exact ⟨rfl, z, by simp [resSem, hv, hr, asAddr, hz w rfl], hzr⟩
          · rename_i hq
            injection h with h
            subst h
            obtain ⟨z, hz, hzr⟩ := load_box (hT _ _ hi) hok hq
            exact ⟨rfl, z, by simp [resSem, hv, hr, asAddr, hz w rfl], nil_sl hzr⟩
          · rename_i ps hq
            injection h with h
            subst h
            obtain ⟨z, hz, hzr⟩ := load_box (hT _ _ hi) hok hq
            exact ⟨rfl, z, by simp [resSem, hv, hr, asAddr, hz w rfl], hzr⟩
          · cases h
        | nil => rw [hl] at hok; exact hok.elim
        | dead => rw [hl] at hok; exact hok.elim
      · cases h
    · cases h

theorem resL_ok (hT : TT.ok P T) (r : Rel C σ a w β) : ∀ {rs : List ResultVar} {ys : List TV}, resL T σ rs = some ys →
    ys.all TV.pure = true ∧ ∃ vs : List Value, (rs.mapM (resSem a.tmps)).run P w = .ok vs w ∧ vs.length = ys.length ∧ ∀ (j : Nat) (x : TV) (u : Value), ys[j]? = some x → vs[j]? = some u → TV.rep β w (good (Mt C σ.h β) w) x u
  | [], ys, h => by
    injection h with h
    subst h
    exact ⟨rfl, [], rfl, rfl, fun j x u hx => by simp at hx⟩
  | x :: rs, ys, h => by
    unfold resL at h
    split at h
    · rename_i y l hy hl
      injection h with h
      subst h
      obtain ⟨h1, v, h2, h3⟩ := resOne_ok hT r hy
      obtain ⟨g1, vs, g2, g3, g4⟩ := resL_ok hT r hl
      refine ⟨by simp [h1, g1], v :: vs, ?_, by simp [g3], fun j z u hz hu => ?_⟩
      · rw [List.mapM_cons]
        simp only [Sem.run_bind, h2, Result.andThen_ok, g2, Sem.run_pure]
      · cases j with
        | zero => simp at hz hu; subst hz hu; exact h3
        | succ j => exact g4 j z u (by simpa using hz) (by simpa using hu)
    · cases h

theorem resV_ok (hT : TT.ok P T) (r : Rel C σ a w β) {fn : Func} {rs : List ResultVar} (hrs : fn.results = rs.toArray) {x : AV} (h : resV T σ rs = some x) :
    x.pure = true ∧ ∃ y, (results fn a.tmps).run P w = .ok y w ∧ AVs (Mt C σ.h β) β w x y := by
  have hres : results fn a.tmps = (do let vs ← fn.results.mapM (resSem a.tmps); pure (if h : vs.size = 1 then vs[0] else .tuple vs)) := by
    unfold results
    congr 2
  rw [hres, hrs, List.mapM_toArray]
  unfold resV at h
  split at h
  · rename_i y hy
    injection h with h
    subst h
    obtain ⟨h1, vs, h2, h3, h4⟩ := resL_ok hT r hy
    match vs, h3 with
    | [v], _ =>
      refine ⟨by cases y <;> first | (simp [AV.pure, tv]; done) | simpa [AV.pure, TV.pure, tv] using h1, v, ?_, ?_⟩
      · simp [h2]
      · have := h4 0 y v rfl rfl
        cases y <;> exact this
  · rename_i l hne hl
    injection h with h
    subst h
    obtain ⟨h1, vs, h2, h3, h4⟩ := resL_ok hT r hl
    refine ⟨h1, .tuple vs.toArray, ?_, vs, rfl, h3, h4⟩
    have : vs.length ≠ 1 := fun e => by
      match l, (h3.symm.trans e) with
      | [z], _ => exact hne z rfl
    simp [h2, this]
  · cases h

/-! ### Entering -/
def arV : AR → AV
  | .pv x => x
  | .ptr j o => .one (.ptr (1000 + j) o)
  | .clo fn caps => .one (.clo fn (caps.map fun x => (1000 + x.1, x.2)))
def argS : Nat → List AR → List (Nat × AV)
  | _, [] => []
  | k, x :: r => (k, arV x) :: argS (k + 1) r
def boxH : Nat → List (TypeId × List PL) → List (Nat × HB)
  | _, [] => []
  | k, x :: r => (1000 + k, .box ⟨x.1, x.2, []⟩) :: boxH (k + 1) r

theorem argS_look : ∀ {args : List AR} {k t : Nat} {x : AV}, (argS k args).lookup t = some x → ∃ j z, args[j]? = some z ∧ t = k + j ∧ x = arV z
  | [], _, _, _, h => by simp [argS] at h
  | z :: r, k, t, x, h => by
    rw [argS] at h
    by_cases e : t = k
    · subst e
      rw [lookup_cons_self] at h
      injection h with h
      exact ⟨0, z, rfl, rfl, h.symm⟩
    · rw [lookup_cons_ne _ _ e] at h
      obtain ⟨j, u, h1, h2, h3⟩ := argS_look h
      exact ⟨j + 1, u, by simpa using h1, by omega, h3⟩
theorem boxH_look : ∀ {H : List (TypeId × List PL)} {k b : Nat} {x : HB}, (boxH k H).lookup b = some x → ∃ j z, H[j]? = some z ∧ b = 1000 + k + j ∧ x = .box ⟨z.1, z.2, []⟩
  | [], _, _, _, h => by simp [boxH] at h
  | z :: r, k, b, x, h => by
    rw [boxH] at h
    by_cases e : b = 1000 + k
    · subst e
      rw [lookup_cons_self] at h
      injection h with h
      exact ⟨0, z, rfl, rfl, h.symm⟩
    · rw [lookup_cons_ne _ _ e] at h
      obtain ⟨j, u, h1, h2, h3⟩ := boxH_look h
      exact ⟨j + 1, u, by simpa using h1, by omega, h3⟩

def pbOf : Nat → List Nat → List (Nat × Nat)
  | _, [] => []
  | k, g :: r => (1000 + k, g) :: pbOf (k + 1) r
theorem pbOf_mem : ∀ {gs : List Nat} {k b g : Nat}, (b, g) ∈ pbOf k gs ↔ ∃ j, gs[j]? = some g ∧ b = 1000 + k + j
  | [], _, _, _ => by simp [pbOf]
  | x :: r, k, b, g => by
    rw [pbOf, List.mem_cons, pbOf_mem]
    constructor
    · rintro (h | ⟨j, h1, h2⟩)
      · injection h with h1 h2
        subst h1 h2
        exact ⟨0, rfl, rfl⟩
      · exact ⟨j + 1, by simpa using h1, by omega⟩
    · rintro ⟨j, h1, h2⟩
      cases j with
      | zero => simp at h1; subst h1; exact .inl (by rw [h2]; rfl)
      | succ j => exact .inr ⟨j, by simpa using h1, by omega⟩
def mapOf (gs : List Nat) : Map := fun b => if 1000 ≤ b then (match gs[b - 1000]? with
  | some g => .here g 0
  | none => .dead) else .dead
theorem mapOf_at {gs : List Nat} {j g : Nat} (h : gs[j]? = some g) : mapOf gs (1000 + j) = .here g 0 := by
  have : 1000 + j - 1000 = j := by omega
  simp [mapOf, this, h]
theorem mapOf_here {gs : List Nat} {b g c : Nat} (h : mapOf gs b = .here g c) : ∃ j, b = 1000 + j ∧ gs[j]? = some g := by
  unfold mapOf at h
  split at h
  · rename_i hb
    split at h
    · rename_i g' hg
      injection h with h1 h2
      subst h1
      exact ⟨b - 1000, by omega, hg⟩
    · cases h
  · cases h

def outs (h : List (Nat × HB)) : Nat → List (TypeId × List PL) → List (List PL) → Prop
  | _, [], [] => True
  | k, x :: H, ps :: H' => h.lookup (1000 + k) = some (.box ⟨x.1, ps, []⟩) ∧ outs h (k + 1) H H'
  | _, _, _ => False
theorem outs_get {h : List (Nat × HB)} : ∀ {k : Nat} {H : List (TypeId × List PL)} {H' : List (List PL)}, outs h k H H' → H'.length = H.length ∧ ∀ (j : Nat) (x : TypeId × List PL) (ps : List PL), H[j]? = some x → H'[j]? = some ps → h.lookup (1000 + (k + j)) = some (.box ⟨x.1, ps, []⟩)
  | _, [], [], _ => ⟨rfl, fun j x ps hx => by simp at hx⟩
  | _, [], _ :: _, h => h.elim
  | _, _ :: _, [], h => h.elim
  | k, x :: H, ps :: H', ho => by
    obtain ⟨h1, h2⟩ := outs_get ho.2
    refine ⟨by simp [h1], fun j y qs hy hq => ?_⟩
    cases j with
    | zero => simp at hy hq; subst hy hq; exact ho.1
    | succ j => have := h2 j y qs (by simpa using hy) (by simpa using hq); rwa [Nat.add_right_comm k 1 j, Nat.add_assoc k j 1] at this
/-- What stands when a function is left. -/
def Left (T : TT) (rs : List ResultVar) (H : List (TypeId × List PL)) (post : AV → List (List PL) → Prop) (σ : AS) : Prop :=
  ∃ r H', resV T σ rs = some r ∧ outs σ.h 0 H H' ∧ post r H'
def fin (T : TT) (rs : List ResultVar) (H : List (TypeId × List PL)) (post : AV → List (List PL) → Prop) : Exit → AS → Prop
  | .normal, σ => Left T rs H post σ
  | .ret, σ => Left T rs H post σ
  | _, _ => False

theorem Fn.intro (hT : TT.ok P T) {f : FuncId} {fn : Func} {c : Code} {rs : List ResultVar} {n : Nat} {args : List AR} {H : List (TypeId × List PL)} {post : AV → List (List PL) → Prop}
    (hf : P.funcs[f]? = some fn) (hname : (fn.name == "runtime.NumGoroutine") = false) (hb : fn.body = some c) (hrs : fn.results = rs.toArray) (hn : fn.ntmps = n) (hargs : Nat.ble args.length n = true)
    (h : ∀ C : Ctx P, Aw P C c ⟨n, argS 0 args, boxH 0 H⟩ (fin T rs H post)) : Fn P f args H post := by
  refine ⟨⟨fn, hf, hname, by rw [hb]; rfl⟩, ?_⟩
  replace hargs := Nat.le_of_ble_eq_true hargs
  intro M w ys gs hgl hgn hgM hMlt hG hbox hys harg
  let C : Ctx P := ⟨w, M, pbOf 0 gs, hG⟩
  have hlive : ∀ k, live (boxH 0 H) (mapOf gs) k → k ∈ gs := by
    rintro k ⟨b, x, cap, h1, h2⟩
    obtain ⟨j, rfl, hj⟩ := mapOf_here h2
    exact List.mem_of_getElem? hj
  have hmt : ∀ k, Mt C (boxH 0 H) (mapOf gs) k → M k := fun k hk => hk.elim id (fun hl => hgM k (hlive k hl))
  have hgood : ∀ k, good M w k → good (Mt C (boxH 0 H) (mapOf gs)) w k ∧ w.heap[k]? = w.heap[k]? := fun k hk => ⟨⟨hk.1, fun hm => hk.2 (hmt k hm)⟩, rfl⟩
  have hrel : Rel C ⟨n, argS 0 args, boxH 0 H⟩ { tmps := ys ++ Array.replicate (fn.ntmps - ys.size) undef, defers := [] } w (mapOf gs) := by
    refine ⟨rfl, St.refl _ _, hMlt, ?_, ?_, ?_, ?_, ?_, ?_, ?_, ?_⟩
    · intro b g hbg
      obtain ⟨j, hj, _⟩ := pbOf_mem.1 hbg
      exact hgM g (List.mem_of_getElem? hj)
    · intro b g hbg
      obtain ⟨j, hj, e⟩ := pbOf_mem.1 hbg
      omega
    · intro b g hbg
      obtain ⟨j, hj, e⟩ := pbOf_mem.1 hbg
      exact ⟨0, by rw [e]; exact mapOf_at hj⟩
    · intro b x hx
      obtain ⟨j, z, hz, e, rfl⟩ := boxH_look hx
      have hj : j < gs.length := by rw [hgl]; exact getElem?_prop hz
      have hgj : gs[j]? = some gs[j] := by simp [hj]
      rw [e, show 1000 + 0 + j = 1000 + j from rfl, mapOf_at hgj]
      obtain ⟨arr, h1, h2⟩ := hbox j z gs[j] hz hgj
      refine ⟨arr, h1, by simpa using (PL.ats_length h2), fun k q u hq hu => ?_⟩
      simp only [ovAt, List.lookup_nil] at hq
      cases hp : z.2[k]? with
      | none => simp [hp] at hq
      | some p =>
        simp [hp] at hq
        subst hq
        obtain ⟨u', hu', hat⟩ := PL.ats_get h2 hp
        have : u' = u := by
          have h3 : arr.toList[k]? = some u := by simpa using hu
          rw [hu'] at h3
          injection h3
        subst this
        exact ⟨PL.at_move hgood p hat, PL.at_leaf hat⟩
    · intro b x g c' hx hl
      obtain ⟨j, e, hj⟩ := mapOf_here hl
      have hg : g ∈ gs := List.mem_of_getElem? hj
      exact ⟨hMlt g (hgM g hg), .inr (pbOf_mem.2 ⟨j, hj, by omega⟩)⟩
    · intro b b' x x' g c1 c2 _ _ l1 l2
      obtain ⟨j, e, hj⟩ := mapOf_here l1
      obtain ⟨j', e', hj'⟩ := mapOf_here l2
      have : j = j' := hgn j j' g hj hj'
      omega
    · show (ys ++ Array.replicate (fn.ntmps - ys.size) undef).size = n
      simp [hys]
      omega
    · intro t x hx
      obtain ⟨j, z, hz, e, rfl⟩ := argS_look hx
      have hj : j < ys.size := by rw [hys]; exact getElem?_prop hz
      rw [Nat.zero_add] at e
      subst e
      have hrep := harg t z ys[t] hz (by simp [hj])
      refine ⟨ys[t], by rw [Array.getElem?_append_left hj]; simp [hj], ?_⟩
      cases z with
      | pv x => exact AV.rep_turn hrep.2 hgood (fun _ => .inr (.inr (AV.pure_no hrep.1 _)))
      | ptr k o =>
        obtain ⟨g, hg, hy⟩ := hrep
        simp only [arV, AVs, AV.rep, AL.rep, mapOf_at hg, hy]
      | clo fn caps =>
        obtain ⟨vs, hy, hn, hc⟩ := hrep
        refine ⟨vs, hy, by simp [hn], fun i b o hb => ?_⟩
        rw [List.getElem?_map] at hb
        cases hi : caps[i]? with
        | none => rw [hi] at hb; cases hb
        | some x =>
          rw [hi] at hb
          injection hb with hb
          injection hb with hb1 hb2
          subst hb1 hb2
          obtain ⟨g, hg, hv⟩ := hc i x.1 x.2 hi
          simp only [mapOf_at hg]
          exact hv
  refine calls_of_wp hf hb (wp_mono (h C _ w ⟨_, hrel⟩) ?_)
  rintro e a' w' ⟨σ', hfin, β', r'⟩
  have key : Left T rs H post σ' → a'.defers = [] ∧ ∃ v, (results fn a'.tmps).run P w' = .ok v w' ∧ ∃ r H' y, Ending.returned v = .returned y ∧ post r H' ∧ r.pure = true ∧ AVs M (fun _ => .dead) w' r y ∧ H'.length = H.length ∧
      (∀ (j : Nat) (x : TypeId × List PL) (ps : List PL) (g : Nat), H[j]? = some x → H'[j]? = some ps → gs[j]? = some g → BoxAt M w' x.1 ps g) ∧ St (fun k => k ∈ gs) w w' := by
    rintro ⟨r, H', hres, ho, hpost⟩
    obtain ⟨hl, hbx0⟩ := outs_get ho
    have hbx : ∀ (j : Nat) (x : TypeId × List PL) (ps : List PL), H[j]? = some x → H'[j]? = some ps → σ'.h.lookup (1000 + j) = some (.box ⟨x.1, ps, []⟩) := fun j x ps hx hp => by
      have := hbx0 j x ps hx hp
      rwa [Nat.zero_add] at this
    obtain ⟨hp, y, hy, hv⟩ := resV_ok hT r' hrs hres
    have hback : ∀ k, good (Mt C σ'.h β') w' k → good M w' k ∧ w'.heap[k]? = w'.heap[k]? := fun k hk => ⟨⟨hk.1, fun hm => hk.2 (.inl hm)⟩, rfl⟩
    refine ⟨r'.defers, y, hy, r, H', y, rfl, hpost, hp, AV.rep_turn hv hback (fun _ => .inr (.inr (AV.pure_no hp _))), hl, ?_, ?_⟩
    · intro j x ps g hx hps hg
      have hb' := r'.heap _ _ (hbx j x ps hx hps)
      obtain ⟨c', hc'⟩ := r'.pbl (1000 + j) g (pbOf_mem.2 ⟨j, hg, rfl⟩)
      rw [hc'] at hb'
      obtain ⟨arr, k1, k2, k3⟩ := hb'
      refine ⟨arr, k1, PL.ats_mk (by simpa using k2) fun i p u hp' hu => ?_⟩
      have := (k3 i (.p p) u (by simp [ovAt, hp']) (by simpa using hu)).1
      exact PL.at_move hback p this
    · exact r'.step.mono fun k _ ⟨b, hbk⟩ => by
        obtain ⟨j, hj, _⟩ := pbOf_mem.1 hbk
        exact List.mem_of_getElem? hj
  cases e with
  | normal => exact key hfin
  | ret => exact key hfin
  | exit id => exact hfin.elim
  | goto l => exact hfin.elim
  | panic ch => exact hfin.elim
  | outgrown => exact hfin.elim

end Go.Proofs.YtbdgmondalkhlaaDoor.Aw
