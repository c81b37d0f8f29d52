
/- Operations over abstract states: those that yield a value and turn nothing.
   Conditions: none; generic in the program. -/
import Derived.Test.YtbdgmondalkhlaaDoorAwOps
namespace Go.Proofs.YtbdgmondalkhlaaDoor.Aw
open Go

variable {P : Program} {C : Ctx P} {σ : AS} {a : Act} {w w1 : World} {β β1 : Map}

def pureRun {α : Type} : Sem α → Option α
  | .pure x => some x
  | .mark _ k => pureRun k
  | _ => none
theorem pureRun_ok {α : Type} : ∀ {s : Sem α} {x : α}, pureRun s = some x → s.run P w = .ok x w
  | .pure _, _, h => by injection h with h; subst h; rfl
  | .mark _ k, _, h => by rw [Sem.run]; exact pureRun_ok (s := k) h
  | .load .., _, h => by cases h
  | .store .., _, h => by cases h
  | .new .., _, h => by cases h
  | .shape .., _, h => by cases h
  | .freeze .., _, h => by cases h
  | .frozen .., _, h => by cases h
  | .getObj .., _, h => by cases h
  | .setObj .., _, h => by cases h
  | .choose .., _, h => by cases h
  | .sys .., _, h => by cases h
  | .program .., _, h => by cases h
  | .halt .., _, h => by cases h

abbrev sc (x : Value) : AV := .one (.p (.v x))

/-! ### 1. Parts -/
def takeAt (i : TI) (ps : List PL) (o : Nat) : Option AV :=
  if i.ag then (if o = 0 ∧ ps.length = i.size then some (.agg ps) else if o + i.size ≤ ps.length then some (.agg ((ps.drop o).take i.size)) else none)
  else match ps[o]? with
    | some q => some (.one (.p q))
    | none => none
def shift (o n : Nat) (ov : List (Nat × AL)) : List (Nat × AL) := ov.filterMap fun x => if o ≤ x.1 ∧ x.1 < o + n then some (x.1 - o, x.2) else none
def nilCell (ps : List PL) (x : Nat × AL) : Bool := match x.2, ps[x.1]? with
  | .nil, some (.sl []) => true
  | _, _ => false
def takeOv (i : TI) (ps : List PL) (ov : List (Nat × AL)) (o : Nat) : Option AV :=
  if i.ag then (if ov.all (nilCell ps) then takeAt i ps o
    else if o + i.size ≤ ps.length then some (.mix ((ps.drop o).take i.size) (shift o i.size ov)) else none)
  else if o < ps.length then match ovAt ps ov o with
    | some q => some (.one q)
    | none => none
  else none

theorem shift_lookup {o n : Nat} : ∀ {ov : List (Nat × AL)} {j : Nat}, j < n → (shift o n ov).lookup j = ov.lookup (o + j)
  | [], _, _ => rfl
  | (k, x) :: ov, j, hj => by
    have ih := shift_lookup (o := o) (ov := ov) hj
    unfold shift at *
    rw [List.filterMap_cons]
    by_cases h : o ≤ k ∧ k < o + n
    · simp only [h, and_self, if_true]
      by_cases e : j = k - o
      · subst e
        have : o + (k - o) = k := by omega
        rw [this, lookup_cons_self, lookup_cons_self]
      · rw [lookup_cons_ne _ _ e, lookup_cons_ne _ _ (show o + j ≠ k by omega), ih]
    · simp only [h, if_false]
      rw [ih, lookup_cons_ne _ _ (show o + j ≠ k by omega)]
theorem ovAt_shift {o n j : Nat} {ps : List PL} {ov : List (Nat × AL)} (hj : j < n) : ovAt ((ps.drop o).take n) (shift o n ov) j = ovAt ps ov (o + j) := by
  unfold ovAt
  rw [shift_lookup hj, List.getElem?_take_of_lt hj, List.getElem?_drop]

theorem ats_slice {F : Nat → Prop} {ps : List PL} {ys : List Value} (h : PL.ats w F ps ys) (o n : Nat) : PL.ats w F ((ps.drop o).take n) ((ys.drop o).take n) := by
  have hl := PL.ats_length h
  refine PL.ats_mk (by simp [hl]) fun j p y hp hy => ?_
  have hj : j < n := by
    rcases Nat.lt_or_ge j n with h | h
    · exact h
    · rw [List.getElem?_eq_none (by simp; omega)] at hp; cases hp
  rw [List.getElem?_take_of_lt hj, List.getElem?_drop] at hp hy
  obtain ⟨z, hz, hat⟩ := PL.ats_get h hp
  rw [hy] at hz
  injection hz with hz
  subst hz
  exact hat

/-- A value read out of cells that hold pure data. -/
theorem load_pure {M : Nat → Prop} {t : TypeId} {i : TI} (ht : tiOf P t = some i) {e : List PL} {ys : List Value} (hy : PL.ats w (good M w) e ys) {ad : Addr} (hc : ∀ (j : Nat) (u : Value), ys[j]? = some u → w.cell? (ad.add j) = some u)
    {o : Nat} {A : AV} (h : takeAt i e o = some A) : ∃ y, (∀ w' : World, w'.heap[ad.block]? = w.heap[ad.block]? → (loadVar t (ad.add o)).run P w' = .ok y w') ∧ AVs M β w A y := by
  have hl := PL.ats_length hy
  have hc' : ∀ w' : World, w'.heap[ad.block]? = w.heap[ad.block]? → ∀ (j : Nat) (u : Value), ys[j]? = some u → w'.cell? (ad.add j) = some u := fun w' hw' j u hu => (cell_same (by rw [add_block]; exact hw')).trans (hc j u hu)
  have hsl : ∀ w' : World, w'.heap[ad.block]? = w.heap[ad.block]? → ∀ (j : Nat) (u : Value), ((ys.drop o).take i.size)[j]? = some u → w'.cell? ((ad.add o).add j) = some u := fun w' hw' j u hu => by
    have hj : j < i.size := by
      rcases Nat.lt_or_ge j i.size with h | h
      · exact h
      · rw [List.getElem?_eq_none (by simp; omega)] at hu; cases hu
    rw [List.getElem?_take_of_lt hj, List.getElem?_drop] at hu
    rw [add_assoc']
    exact hc' w' hw' _ _ hu
  unfold takeAt at h
  split at h
  · rename_i hag
    split at h
    · rename_i h0
      obtain ⟨rfl, hsz⟩ := h0
      injection h with h
      subst h
      refine ⟨_, fun w' hw' => run_loadVar_agg ht hag ys (by rw [hl, hsz]) _ (fun j u hu => ?_), ys, rfl, hy⟩
      rw [add_assoc', Nat.zero_add]
      exact hc' w' hw' j u hu
    · split at h
      · rename_i hle
        injection h with h
        subst h
        exact ⟨_, fun w' hw' => run_loadVar_agg ht hag ((ys.drop o).take i.size) (by simp; omega) _ (hsl w' hw'), _, rfl, ats_slice hy o i.size⟩
      · cases h
  · rename_i hag
    split at h
    · rename_i q hq
      injection h with h
      subst h
      obtain ⟨y, hy', hat⟩ := PL.ats_get hy hq
      exact ⟨y, fun w' hw' => run_loadVar_one ht (by simpa using hag) y _ (hc' w' hw' o y hy'), hat⟩
    · cases h

/-- A value read out of a variable. -/
theorem load_box {M : Nat → Prop} {t : TypeId} {i : TI} (ht : tiOf P t = some i) {B : Box} {g c : Nat} (hb : HB.ok M β w (.box B) (.here g c)) {o : Nat} {A : AV} (h : takeOv i B.ps B.ov o = some A) :
    ∃ y, (∀ w' : World, w'.heap[g]? = w.heap[g]? → (loadVar t ⟨g, o, none⟩).run P w' = .ok y w') ∧ AVs M β w A y := by
  obtain ⟨arr, h1, h2, h3⟩ := hb
  have hcell' : ∀ w' : World, w'.heap[g]? = w.heap[g]? → ∀ (j : Nat) (u : Value), arr.toList[j]? = some u → w'.cell? ((⟨g, 0, none⟩ : Addr).add j) = some u := fun w' hw' j u hu => by
    rw [add_at, Nat.zero_add]
    simp only [World.cell?, hw', h1]
    simpa using hu
  have hcell := hcell' w rfl
  unfold takeOv at h
  split at h
  · rename_i hag
    split at h
    · rename_i hall
      have hats : PL.ats w (good M w) B.ps arr.toList := PL.ats_mk (by simp [h2]) fun j p y hp hy => by
        cases ho : B.ov.lookup j with
        | none => exact (h3 j (.p p) y (by unfold ovAt; rw [ho]; simp [hp]) (by simpa using hy)).1
        | some x =>
          have hx := List.all_eq_true.1 hall _ (lookup_mem ho)
          have hq := (h3 j x y (by unfold ovAt; rw [ho]) (by simpa using hy)).1
          unfold nilCell at hx
          split at hx
          · rename_i e1 e2
            simp only at e1 e2
            rw [hp] at e2
            injection e2 with e2
            subst e1 e2
            rw [show y = _ from hq]
            exact ⟨none, 0, 0, rfl, fit0, by simp [PL.rows]⟩
          · cases hx
      have := load_pure (P := P) (β := β) (M := M) ht hats hcell h
      rwa [add_at, Nat.zero_add] at this
    · split at h
      · rename_i hle
        injection h with h
        subst h
        refine ⟨_, fun w' hw' => run_loadVar_agg ht hag ((arr.toList.drop o).take i.size) (by simp; omega) _ (fun j u hu => ?_), (arr.toList.drop o).take i.size, rfl, by simp; omega, fun j q u hq hu => ?_⟩
        · have hj : j < i.size := by
            rcases Nat.lt_or_ge j i.size with h | h
            · exact h
            · rw [List.getElem?_eq_none (by simp; omega)] at hu; cases hu
          rw [List.getElem?_take_of_lt hj, List.getElem?_drop] at hu
          have := hcell' w' hw' (o + j) u hu
          rwa [add_at, Nat.zero_add, ← add_at] at this
        · have hj : j < i.size := by
            rcases Nat.lt_or_ge j i.size with h | h
            · exact h
            · rw [List.getElem?_eq_none (by simp; omega)] at hu; cases hu
          rw [ovAt_shift hj] at hq
          rw [List.getElem?_take_of_lt hj, List.getElem?_drop] at hu
          exact (h3 (o + j) q u hq (by simpa using hu)).1
      · cases h
  · rename_i hag
    split at h
    · rename_i hlt
      rw [← h2] at hlt
      split at h
      · rename_i q hq
        injection h with h
        subst h
        exact ⟨arr[o], fun w' hw' => run_loadVar_one ht (by simpa using hag) _ _ (by have := hcell' w' hw' o arr[o] (by simp [hlt]); rwa [add_at, Nat.zero_add] at this), (h3 o q arr[o] hq (by simp [hlt])).1⟩
      · cases h
    · cases h

/-! ### 2. The values of operations -/
def tv : TV → AV
  | .one x => .one x
  | .agg ps => .agg ps
def fld (i : TI) (f : Nat) : Option (Nat × Nat × Bool) := match i.kd with
  | .sct fs => fs[f]?
  | _ => none
def isBool (T : TT) (t : Nat) : Bool := match T.lookup t with
  | some i => match i.kd with
    | .bool => true
    | _ => false
  | none => false

def binV (T : TT) (op : BinOp) (t : TypeId) (x y : Operand) (X Y : Value) : Option Value := match op, X, Y with
  | .eql, .bool p, .bool q => if isBool T t then some (.bool (p == q)) else none
  | .neq, .bool p, .bool q => if isBool T t then some (.bool (!(p == q))) else none
  | op, X, Y => pureRun (do eqGuard op t x y X Y; binOp op t X Y)

def evalV (T : TT) (σ : AS) : Op → Option AV
  | .move x => ev σ x
  | .assign x => ev σ x
  | .pick c x y => match ev σ c with
    | some (.one (.p (.v (.bool true)))) => ev σ x
    | some (.one (.p (.v (.bool false)))) => ev σ y
    | _ => none
  | .load t x => match T.lookup t, ev σ x with
    | some i, some (.one (.ptr b o)) => match σ.h.lookup b with
      | some (.box B) => takeOv i B.ps B.ov o
      | _ => none
    | some i, some (.one (.el e o)) => takeAt i e o
    | _, _ => none
  | .nilCheck x => match ev σ x with
    | some (.one (.el e o)) => some (.one (.el e o))
    | some (.one (.ptr b o)) => match σ.h.lookup b with
      | some (.box _) => some (.one (.ptr b o))
      | _ => none
    | _ => none
  | .fieldAddr s x f => match T.lookup s, ev σ x with
    | some i, some (.one (.ptr b o)) => match σ.h.lookup b, fld i f with
      | some (.box _), some (off, sz, _) => if sz ≠ 0 then some (.one (.ptr b (o + off))) else none
      | _, _ => none
    | some i, some (.one (.el e o)) => match fld i f with
      | some (off, sz, _) => if sz ≠ 0 ∧ o + off < e.length then some (.one (.el e (o + off))) else none
      | none => none
    | _, _ => none
  | .field s x f => match T.lookup s, ev σ x with
    | some i, some (.agg ps) => match fld i f with
      | some (off, sz, ag) => if ag then (if off + sz ≤ ps.length then some (.agg ((ps.drop off).take sz)) else none) else match ps[off]? with
        | some q => some (.one (.p q))
        | none => none
      | none => none
    | _, _ => none
  | .call c => match c.callee, c.args.toList, c.argTypes.toList with
    | .builtin .len, [x], [t] => match T.lookup t with
      | some i => match i.kd, ev σ x with
        | .sli _ _ _, some (.one (.p (.sl es))) => some (sc (.int .i64 es.length))
        | .sli _ _ _, some (.one .nil) => some (sc (.int .i64 0))
        | .sli _ _ _, some (.one (.own b n)) => match σ.h.lookup b with
          | some (.row _ _ _ _) => some (sc (.int .i64 n))
          | _ => none
        | .str, some (.one (.p (.v (.string s)))) => some (sc (.int .i64 s.size))
        | _, _ => none
      | none => none
    | _, _, _ => none
  | .extract x j => match ev σ x with
    | some (.tup l) => match l[j]? with
      | some q => some (tv q)
      | none => none
    | _ => none
  | .binOp op t x y _ => match ev σ x, ev σ y with
    | some (.one (.p (.v X))), some (.one (.p (.v Y))) => match binV T op t x y X Y with
      | some R => if leaf R then some (sc R) else none
      | none => none
    | _, _ => none
  | .unOp op _ x => match ev σ x with
    | some (.one (.p (.v X))) => match pureRun (Op.unary op X) with
      | some R => if leaf R then some (sc R) else none
      | none => none
    | _ => none
  | .convert s d x => match T.lookup s, T.lookup d, ev σ x with
    | some i, some j, some (.one (.p (.v (.int _ n)))) => match i.kd, j.kd with
      | .int _, .int k => some (sc (.int k (k.wrap n)))
      | _, _ => none
    | some i, some j, some (.one (.p (.v (.string s)))) => match i.kd, j.kd with
      | .str, .str => some (sc (.string s))
      | _, _ => none
    | _, _, _ => none
  | _ => none

section sound
variable {T : TT}
theorem lk {t : Nat} {i : TI} (hT : TT.ok P T) (h : T.lookup t = some i) : tiOf P t = some i := hT t i h

theorem mapM_get {α β : Type} {f : α → Option β} : ∀ {l : List α} {r : List β}, l.mapM f = some r → ∀ {j : Nat} {y : β}, r[j]? = some y → ∃ x, l[j]? = some x ∧ f x = some y
  | [], r, h, j, y, hy => by
    simp at h
    subst h
    simp at hy
  | x :: l, r, h, j, y, hy => by
    rw [List.mapM_cons] at h
    simp only [Option.bind_eq_bind, Option.bind_eq_some_iff] at h
    obtain ⟨z, hz, r', hr', e⟩ := h
    simp at e
    subst e
    cases j with
    | zero => simp at hy; subst hy; exact ⟨x, rfl, hz⟩
    | succ j => obtain ⟨u, hu, hf⟩ := mapM_get hr' (by simpa using hy); exact ⟨u, by simpa using hu, hf⟩

theorem fld_ok {t : TypeId} {i : TI} (ht : tiOf P t = some i) {f off sz : Nat} {ag : Bool} (h : fld i f = some (off, sz, ag)) :
    ∃ (fs : Array Field) (x : Field), P.underlying t = some (.struct fs) ∧ fs[f]? = some x ∧ x.offset = off ∧ sizeT P x.type = some sz ∧ aggT P x.type = ag := by
  obtain ⟨x, d, z, h1, h2, h3, h4, h5, h6, h7, _⟩ := TI.info ht
  unfold fld at h
  split at h
  · rename_i fs hk
    rw [← h6] at hk
    cases d with
    | struct fields =>
      simp only [tkOf] at hk
      split at hk
      · rename_i l hl
        injection hk with hk
        subst hk
        obtain ⟨u, hu, hf⟩ := mapM_get hl h
        cases hs : sizeT P u.type with
        | none => simp [hs] at hf
        | some s =>
          simp [hs] at hf
          exact ⟨fields, u, h2, by simpa using hu, hf.1, by rw [hs, hf.2.1], hf.2.2⟩
      · cases hk
    | array n e => simp only [tkOf] at hk; split at hk <;> cases hk
    | slice e => simp only [tkOf] at hk; split at hk <;> cases hk
    | _ => cases hk
  · cases h

theorem run_fieldAt {t : TypeId} {i : TI} (ht : tiOf P t = some i) {f off sz : Nat} {ag : Bool} (h : fld i f = some (off, sz, ag)) (hsz : sz ≠ 0) (ad : Addr) :
    (Instr.fieldAt t (.pointer (some ad)) f).run P w = .ok (.pointer (some (ad.add off))) w := by
  obtain ⟨fs, x, h1, h2, h3, h4, h5⟩ := fld_ok ht h
  obtain ⟨ti, d, hi, _, h4⟩ := sizeT_ok h4
  · simp only [Instr.fieldAt, Sem.run_bind, run_underlying' h1, Result.andThen_ok, h2, Instr.sureAddr, Sem.run_pure, fieldPlace, run_size' hi, h4, hsz, if_false, h3]


theorem part_ok {M : Nat → Prop} {t : TypeId} {sz : Nat} (hs : sizeT P t = some sz) {ps : List PL} {ys : List Value} (hy : PL.ats w (good M w) ps ys) {off : Nat} {A : AV}
    (h : (if aggT P t then (if off + sz ≤ ps.length then some (AV.agg ((ps.drop off).take sz)) else none) else match ps[off]? with
        | some q => some (.one (.p q))
        | none => none) = some A) : ∃ y, (∀ w' : World, (part t ys.toArray off).run P w' = .ok y w') ∧ AVs M β w A y := by
  have hl := PL.ats_length hy
  obtain ⟨ti, d, hi, hd, hs⟩ := sizeT_ok hs
  · simp only [part, Sem.run_bind, run_isAgg' hd, Result.andThen_ok]
    split at h
    · rename_i hag
      split at h
      · injection h with h
        subst h
        simp only [hag, if_true, Sem.run_bind, run_size' hi, Result.andThen_ok, Sem.run_pure, hs]
        refine ⟨_, fun _ => rfl, (ys.drop off).take sz, ?_, ats_slice hy off sz⟩
        congr 1
        apply Array.ext'
        simp
      · cases h
    · rename_i hag
      split at h
      · rename_i q hq
        injection h with h
        subst h
        obtain ⟨y, hy', hat⟩ := PL.ats_get hy hq
        refine ⟨y, fun _ => ?_, hat⟩
        simp [hag, hy']
      · cases h

theorem getElem?_prop {α : Type} {l : List α} {j : Nat} {x : α} (h : l[j]? = some x) : j < l.length := (List.getElem?_eq_some_iff.1 h).1

theorem run_eqBool {t : TypeId} (h : P.underlying t = some .bool) (p q : Bool) : (binOp .eql t (.bool p) (.bool q)).run P w = .ok (.bool (p == q)) w := by
  have e : Op.equal t (.bool p) (.bool q) = Op.equalIn (9999 + 1) t (.bool p) (.bool q) := rfl
  show (Sem.bind (Op.equal t (.bool p) (.bool q)) fun b => Sem.pure (Value.bool b)).run P w = _
  rw [show (Sem.bind (Op.equal t (.bool p) (.bool q)) fun b => Sem.pure (Value.bool b)) = (Op.equal t (.bool p) (.bool q) >>= fun b => Sem.pure (Value.bool b)) from rfl]
  rw [Sem.run_bind, e, Op.equalIn, Sem.run_bind, run_underlying' h]
  rfl
theorem run_neBool {t : TypeId} (h : P.underlying t = some .bool) (p q : Bool) : (binOp .neq t (.bool p) (.bool q)).run P w = .ok (.bool (!(p == q))) w := by
  have e : Op.equal t (.bool p) (.bool q) = Op.equalIn (9999 + 1) t (.bool p) (.bool q) := rfl
  show (Sem.bind (Op.equal t (.bool p) (.bool q)) fun b => Sem.pure (Value.bool (!b))).run P w = _
  rw [show (Sem.bind (Op.equal t (.bool p) (.bool q)) fun b => Sem.pure (Value.bool (!b))) = (Op.equal t (.bool p) (.bool q) >>= fun b => Sem.pure (Value.bool (!b))) from rfl]
  rw [Sem.run_bind, e, Op.equalIn, Sem.run_bind, run_underlying' h]
  rfl
theorem isBool_ok {t : TypeId} (hT : TT.ok P T) (hb : isBool T t = true) : P.underlying t = some .bool := by
  unfold isBool at hb
  split at hb
  · rename_i i hi
    split at hb
    · rename_i hk
      obtain ⟨xx, d, z, h1, h2, h3, h4, h5, h6, h7, _⟩ := TI.info (lk hT hi)
      have hd : d = .bool := by
        rw [hk] at h6
        cases d <;> simp only [tkOf] at h6 <;> first | rfl | (split at h6 <;> cases h6; done) | cases h6
      rw [h2, hd]
    · cases hb
  · cases hb
theorem binV_ok (hT : TT.ok P T) {op : BinOp} {t : TypeId} {x y : Operand} {X Y R : Value} (h : binV T op t x y X Y = some R) : (do eqGuard op t x y X Y; binOp op t X Y).run P w = .ok R w := by
  unfold binV at h
  split at h
  · split at h
    · rename_i hb
      injection h with h
      subst h
      rw [Sem.run_bind]
      exact run_eqBool (isBool_ok hT hb) _ _
    · cases h
  · split at h
    · rename_i hb
      injection h with h
      subst h
      rw [Sem.run_bind]
      exact run_neBool (isBool_ok hT hb) _ _
    · cases h
  · exact pureRun_ok h


/-! ### 3. What may be read in whatever world -/
/-- The blocks of the named places N. -/
def tch (h : List (Nat × HB)) (β : Map) (N : List Nat) (k : Nat) : Prop := ∃ b ∈ N, ∃ x c, h.lookup b = some x ∧ β b = .here k c
def rdok (N : List Nat) (σ : AS) : Op → Bool
  | .load _ x => match ev σ x with
    | some (.one (.ptr b _)) => !N.contains b
    | _ => true
  | _ => true

set_option maxHeartbeats 1000000 in
theorem evalV_ok (hT : TT.ok P T) (r : Rel C σ a w β) {o : Oper} {A : AV} {N : List Nat} (hN : rdok N σ o.op = true) (h : evalV T σ o.op = some A) :
    ∃ y, (∀ w', St (tch σ.h β N) w w' → (execOp a.eval o).run P w' = .ok (.value y) w') ∧ AVs (Mt C σ.h β) β w A y := by
  unfold evalV at h
  split at h
  · rename_i x ho
    exact ⟨_, fun w' _ => by simp [execOp, ho], r.ev h⟩
  · rename_i x ho
    exact ⟨_, fun w' _ => by simp [execOp, ho], r.ev h⟩
  · rename_i c x y ho
    split at h
    · rename_i hc
      exact ⟨_, fun w' _ => by simp [execOp, ho, r.ev_v hc, asBool], r.ev h⟩
    · rename_i hc
      exact ⟨_, fun w' _ => by simp [execOp, ho, r.ev_v hc, asBool], r.ev h⟩
    · cases h
  · rename_i t x ho
    split at h
    · rename_i i b o' hi hx
      split at h
      · rename_i B hb
        have hx' := r.ev hx
        have hok := r.heap b _ hb
        simp only [AVs, AV.rep, AL.rep] at hx'
        cases hl : β b with
        | here g c =>
          rw [hl] at hx' hok
          obtain ⟨y, hy, hv⟩ := load_box (lk hT hi) hok h
          refine ⟨y, fun w' hw' => ?_, hv⟩
          have hsame : w'.heap[g]? = w.heap[g]? := hw'.same g (r.young b _ g c hb hl).1 (by
            rintro ⟨b', hb', x', c', h1, h2⟩
            have := r.apart b' b _ _ g c' c h1 hb h2 hl
            subst this
            rw [ho] at hN
            simp only [rdok, hx] at hN
            simp [hb'] at hN)
          have hy := hy w' hsame
          simp [execOp, ho, Instr.loadAt, hx', Instr.sureAddr, hy]
        | nil => rw [hl] at hok; exact hok.elim
        | dead => rw [hl] at hok; exact hok.elim
      · cases h
    · rename_i i e o' hi hx
      obtain ⟨ad, ys, hy, hF, hats, hc, hlt⟩ := r.ev hx
      obtain ⟨y, hy', hv⟩ := load_pure (β := β) (lk hT hi) hats hc h
      refine ⟨y, fun w' hw' => ?_, hv⟩
      have hsame : w'.heap[ad.block]? = w.heap[ad.block]? := hw'.same _ hF.1 (by
        rintro ⟨b', hb', x', c', h1, h2⟩
        exact hF.2 (.inr ⟨b', x', c', h1, h2⟩))
      have hy' := hy' w' hsame
      simp [execOp, ho, Instr.loadAt, hy, Instr.sureAddr, hy']
    · cases h
  · rename_i x ho
    split at h
    · rename_i e o' hx
      injection h with h
      subst h
      have hx' := r.ev hx
      refine ⟨_, fun w' _ => ?_, hx'⟩
      obtain ⟨ad, ys, hy, _⟩ := hx'
      simp [execOp, ho, hy]
    · rename_i b o' hx
      split at h
      · rename_i B hb
        injection h with h
        subst h
        have hx' := r.ev hx
        have hok := r.heap b _ hb
        refine ⟨_, fun w' _ => ?_, hx'⟩
        simp only [AVs, AV.rep, AL.rep] at hx'
        cases hl : β b with
        | here g c => rw [hl] at hx'; simp [execOp, ho, hx']
        | nil => rw [hl] at hok; exact hok.elim
        | dead => rw [hl] at hok; exact hok.elim
      · cases h
    · cases h
  · rename_i s x f ho
    split at h
    · rename_i i b o' hi hx
      split at h
      · rename_i B off sz ag hb hf
        split at h
        · rename_i hsz
          injection h with h
          subst h
          have hx' := r.ev hx
          have hok := r.heap b _ hb
          simp only [AVs, AV.rep, AL.rep] at hx'
          cases hl : β b with
          | here g c =>
            rw [hl] at hx'
            refine ⟨.pointer (some ((⟨g, o', none⟩ : Addr).add off)), fun w' _ => by simp [execOp, ho, hx', run_fieldAt (lk hT hi) hf hsz], ?_⟩
            simp only [AVs, AV.rep, AL.rep, hl, add_at]
          | nil => rw [hl] at hok; exact hok.elim
          | dead => rw [hl] at hok; exact hok.elim
        · cases h
      · cases h
    · rename_i i e o' hi hx
      split at h
      · rename_i off sz ag hf
        split at h
        · rename_i hsz
          injection h with h
          subst h
          obtain ⟨ad, ys, hy, hF, hats, hc, hlt⟩ := r.ev hx
          exact ⟨.pointer (some ((ad.add o').add off)), fun w' _ => by simp [execOp, ho, hy, run_fieldAt (lk hT hi) hf hsz.1], ad, ys, by rw [add_assoc'], hF, hats, hc, hsz.2⟩
        · cases h
      · cases h
    · cases h
  · rename_i s x f ho
    split at h
    · rename_i i ps hi hx
      split at h
      · rename_i off sz ag hf
        obtain ⟨fs, fd, h1, h2, h3, h4, h5⟩ := fld_ok (lk hT hi) hf
        obtain ⟨ys, hy, hats⟩ := r.ev hx
        rw [← h5] at h
        obtain ⟨y, hp, hv⟩ := part_ok (β := β) h4 hats h
        exact ⟨y, fun w' _ => by simp [execOp, ho, Instr.field, run_underlying' h1, h2, hy, asAgg, h3, hp], hv⟩
      · cases h
    · cases h
  · rename_i c ho
    split at h
    · rename_i x t hc hargs htys
      split at h
      · rename_i i hi
        obtain ⟨xi, dd, z, i1, i2, i3, i4, i5, i6, i7, _⟩ := TI.info (lk hT hi)
        have hca : c.args = #[x] := by
          apply Array.ext'
          simpa using hargs
        have hct : c.argTypes = #[t] := by
          apply Array.ext'
          simpa using htys
        split at h
        · rename_i e1 e2 e3 es hk hx
          injection h with h
          subst h
          obtain ⟨e, rfl⟩ : ∃ e, dd = .slice e := by
            rw [hk] at i6
            cases dd <;> simp only [tkOf] at i6 <;> first | exact ⟨_, rfl⟩ | (split at i6 <;> cases i6; done) | cases i6
          obtain ⟨A', c', sz, hy, _, _⟩ := r.ev hx
          exact ⟨_, fun w' _ => by simp [execOp, ho, resolve, hc, hca, hct, invoke, builtin, Builtin.len_, run_underlying' i2, hy, goInt], rfl, rfl⟩
        · rename_i e1 e2 e3 hk hx
          injection h with h
          subst h
          obtain ⟨e, rfl⟩ : ∃ e, dd = .slice e := by
            rw [hk] at i6
            cases dd <;> simp only [tkOf] at i6 <;> first | exact ⟨_, rfl⟩ | (split at i6 <;> cases i6; done) | cases i6
          have hy : a.eval x = .slice none 0 0 := r.ev hx
          exact ⟨_, fun w' _ => by simp [execOp, ho, resolve, hc, hca, hct, invoke, builtin, Builtin.len_, run_underlying' i2, hy, goInt], rfl, rfl⟩
        · rename_i e1 e2 e3 b n hk hx
          split at h
          · rename_i hb
            injection h with h
            subst h
            obtain ⟨e, rfl⟩ : ∃ e, dd = .slice e := by
              rw [hk] at i6
              cases dd <;> simp only [tkOf] at i6 <;> first | exact ⟨_, rfl⟩ | (split at i6 <;> cases i6; done) | cases i6
            have hv := r.ev hx
            have hok := r.heap b _ hb
            obtain ⟨A', c', hy⟩ : ∃ A' c', a.eval x = .slice A' n c' := by
              simp only [AVs, AV.rep, AL.rep] at hv
              cases hl : β b with
              | dead => rw [hl] at hok; exact hok.elim
              | nil => rw [hl] at hv; rw [hv.1, hv.2]; exact ⟨_, _, rfl⟩
              | here g c => rw [hl] at hv; exact ⟨_, _, hv.1⟩
            exact ⟨_, fun w' _ => by simp [execOp, ho, resolve, hc, hca, hct, invoke, builtin, Builtin.len_, run_underlying' i2, hy, goInt], rfl, rfl⟩
          · cases h
        · rename_i s' hk hx
          injection h with h
          subst h
          obtain rfl : dd = .string := by
            rw [hk] at i6
            cases dd <;> simp only [tkOf] at i6 <;> first | rfl | (split at i6 <;> cases i6; done) | cases i6
          exact ⟨_, fun w' _ => by simp [execOp, ho, resolve, hc, hca, hct, invoke, builtin, Builtin.len_, run_underlying' i2, r.ev_v hx, goInt], rfl, rfl⟩
        · cases h
      · cases h
    · cases h
  · rename_i x j ho
    split at h
    · rename_i l hx
      split at h
      · rename_i q hq
        injection h with h
        subst h
        obtain ⟨ys, hy, hl, hj⟩ := r.ev hx
        have hlt : j < ys.length := by rw [hl]; exact getElem?_prop hq
        refine ⟨ys[j], fun w' _ => by simp [execOp, ho, Instr.extract, hy, hlt], ?_⟩
        have := hj j q ys[j] hq (by simp [hlt])
        cases q <;> exact this
      · cases h
    · cases h
  · rename_i op t x y yt ho
    split at h
    · rename_i X Y hx hy
      split at h
      · rename_i R hR
        split at h
        · rename_i hlf
          injection h with h
          subst h
          refine ⟨R, fun w' _ => ?_, rfl, hlf⟩
          simp only [execOp, ho, r.ev_v hx, r.ev_v hy, Sem.run_bind (x := (do eqGuard op t x y X Y; binOp op t X Y)), binV_ok (w := w') hT hR, Result.andThen_ok, Sem.run_pure]
        · cases h
      · cases h
    · cases h
  · rename_i op t x ho
    split at h
    · rename_i X hx
      split at h
      · rename_i R hR
        split at h
        · rename_i hlf
          injection h with h
          subst h
          have := fun w' => pureRun_ok (P := P) (w := w') hR
          exact ⟨R, fun w' _ => by simp [execOp, ho, r.ev_v hx, this w'], rfl, hlf⟩
        · cases h
      · cases h
    · cases h
  · rename_i s d x ho
    split at h
    · rename_i i j k n hi hj hx
      split at h
      · rename_i k1 k2 e1 e2
        injection h with h
        subst h
        obtain ⟨_, d1, _, _, g1, _, _, _, f1, _⟩ := TI.info (lk hT hi)
        obtain ⟨_, d2, _, _, g2, _, _, _, f2, _⟩ := TI.info (lk hT hj)
        have hd2 : d2 = .int k2 := by
          rw [e2] at f2
          cases d2 <;> simp only [tkOf] at f2 <;> first | (split at f2 <;> cases f2; done) | (cases f2; rfl) | cases f2
        have hd1 : d1 = .int k1 := by
          rw [e1] at f1
          cases d1 <;> simp only [tkOf] at f1 <;> first | (split at f1 <;> cases f1; done) | (cases f1; rfl) | cases f1
        subst hd1 hd2
        exact ⟨_, fun w' _ => by simp [execOp, ho, r.ev_v hx, convert, run_underlying' g1, run_underlying' g2, Conv.intToInt], rfl, rfl⟩
      · cases h
    · rename_i i j s' hi hj hx
      split at h
      · rename_i e1 e2
        injection h with h
        subst h
        obtain ⟨_, d1, _, _, g1, _, _, _, f1, _⟩ := TI.info (lk hT hi)
        obtain ⟨_, d2, _, _, g2, _, _, _, f2, _⟩ := TI.info (lk hT hj)
        have hd2 : d2 = .string := by
          rw [e2] at f2
          cases d2 <;> simp only [tkOf] at f2 <;> first | (split at f2 <;> cases f2; done) | rfl | cases f2
        have hd1 : d1 = .string := by
          rw [e1] at f1
          cases d1 <;> simp only [tkOf] at f1 <;> first | (split at f1 <;> cases f1; done) | rfl | cases f1
        subst hd1 hd2
        exact ⟨_, fun w' _ => by simp [execOp, ho, r.ev_v hx, convert, run_underlying' g1, run_underlying' g2], rfl, rfl⟩
      · cases h
    · cases h
  · cases h
end sound
end Go.Proofs.YtbdgmondalkhlaaDoor.Aw
