
/- A calculus of abstract states for walks through the model: what slots, boxes and rows hold is told by pure data.
   Conditions: none; generic in the program. -/
import Derived.OrdersHeld
import Derived.RowKit3
import Derived.Below
import Derived.Test.YtbdgmondalkhlaaDoorAwG
namespace Go.Proofs.YtbdgmondalkhlaaDoor.Aw
open Go

/-! ### 1. The world, but for some blocks -/
structure St (M : Nat → Prop) (w w' : World) : Prop where
  os : w'.os = w.os
  tape : w'.tape = w.tape
  output : w'.output = w.output
  size : w.heap.size ≤ w'.heap.size
  same : ∀ k, k < w.heap.size → ¬ M k → w'.heap[k]? = w.heap[k]?

theorem St.refl (M : Nat → Prop) (w : World) : St M w w := ⟨rfl, rfl, rfl, Nat.le_refl _, fun _ _ _ => rfl⟩
theorem St.trans {M : Nat → Prop} {a b c : World} (h : St M a b) (k : St M b c) : St M a c :=
  ⟨k.os.trans h.os, k.tape.trans h.tape, k.output.trans h.output, Nat.le_trans h.size k.size,
    fun i hi hm => (k.same i (Nat.lt_of_lt_of_le hi h.size) hm).trans (h.same i hi hm)⟩
theorem St.mono {M M' : Nat → Prop} {w w' : World} (h : St M w w') (hm : ∀ k, k < w.heap.size → M k → M' k) : St M' w w' :=
  ⟨h.os, h.tape, h.output, h.size, fun k hk hn => h.same k hk (fun x => hn (hm k hk x))⟩
theorem St.below {w w' : World} (h : St (fun _ => False) w w') : Go.RowKit.Below w.heap.size w w' :=
  ⟨h.os, h.tape, h.output, h.size, fun k hk => h.same k hk (fun x => x)⟩
theorem St.of_below {M : Nat → Prop} {w w' : World} (h : Go.RowKit.Below w.heap.size w w') : St M w w' :=
  ⟨h.os, h.tape, h.output, h.size, fun k hk _ => h.block k hk⟩
theorem St.push (M : Nat → Prop) (w : World) (o : Obj) : St M w { w with heap := w.heap.push o } :=
  ⟨rfl, rfl, rfl, by simp, fun k hk _ => by simp [Array.getElem?_push, Nat.ne_of_lt hk]⟩
theorem St.drew (M : Nat → Prop) (w : World) (n : Nat) : St M w { w with drawn := n } :=
  ⟨rfl, rfl, rfl, Nat.le_refl _, fun _ _ _ => rfl⟩
theorem St.set {M : Nat → Prop} (w : World) (a : Addr) (v : Value) (h : M a.block) : St M w (w.setCell a v) :=
  ⟨rfl, rfl, rfl, by simp [World.setCell], fun k hk hm => by
    have hne : a.block ≠ k := fun e => hm (e ▸ h)
    simp [World.setCell, Array.getElem?_modify, hne]⟩

/-! ### 2. Pure data and how they lie in memory -/
def leaf : Value → Bool
  | .agg _ => false
  | .tuple _ => false
  | _ => true

inductive PL where
  | v (x : Value)
  | sl (es : List (List PL))

/-- A slice's length and room. -/
def fitL (n c : Nat) : Prop := n ≤ c ∧ c ≤ maxLen
theorem fit0 : fitL 0 0 := ⟨Nat.le_refl _, Nat.zero_le _⟩
mutual
/-- Pure data x lies as the value y; what it leads to lies in blocks of F. -/
def PL.at (w : World) (F : Nat → Prop) : PL → Value → Prop
  | .v x, y => y = x ∧ leaf x = true
  | .sl es, y => ∃ A c sz, y = .slice A es.length c ∧ fitL es.length c ∧ PL.rows w F A sz 0 es
def PL.ats (w : World) (F : Nat → Prop) : List PL → List Value → Prop
  | [], [] => True
  | p :: ps, y :: ys => PL.at w F p y ∧ PL.ats w F ps ys
  | _, _ => False
def PL.rows (w : World) (F : Nat → Prop) (A : Option Addr) (sz : Nat) : Nat → List (List PL) → Prop
  | _, [] => True
  | i, e :: es => (e.length = sz ∧ ∃ ad ys, A = some ad ∧ F ad.block ∧ PL.ats w F e ys ∧ ∀ j u, ys[j]? = some u → w.cell? (ad.add (i * sz + j)) = some u) ∧ PL.rows w F A sz (i + 1) es
end

section
variable {w w1 : World} {F F1 : Nat → Prop}
theorem add_block (a : Addr) (n : Nat) : (a.add n).block = a.block := by unfold Addr.add; split <;> rfl
theorem cell_same {a : Addr} (h : w1.heap[a.block]? = w.heap[a.block]?) : w1.cell? a = w.cell? a := by simp only [World.cell?, h]
mutual
theorem PL.at_move (hF : ∀ k, F k → F1 k ∧ w1.heap[k]? = w.heap[k]?) : ∀ (x : PL) {y : Value}, PL.at w F x y → PL.at w1 F1 x y
  | .v x, _, h => by rw [PL.at] at *; exact h
  | .sl es, _, h => by
    rw [PL.at] at *
    obtain ⟨A, c, sz, e, hl, hr⟩ := h
    exact ⟨A, c, sz, e, hl, PL.rows_move hF es hr⟩
theorem PL.ats_move (hF : ∀ k, F k → F1 k ∧ w1.heap[k]? = w.heap[k]?) : ∀ (ps : List PL) {ys : List Value}, PL.ats w F ps ys → PL.ats w1 F1 ps ys
  | [], [], _ => by simp [PL.ats]
  | [], _ :: _, h => by simp [PL.ats] at h
  | _ :: _, [], h => by simp [PL.ats] at h
  | p :: ps, y :: ys, h => by
    rw [PL.ats] at *
    exact ⟨PL.at_move hF p h.1, PL.ats_move hF ps h.2⟩
theorem PL.rows_move (hF : ∀ k, F k → F1 k ∧ w1.heap[k]? = w.heap[k]?) : ∀ (es : List (List PL)) {A : Option Addr} {sz b : Nat}, PL.rows w F A sz b es → PL.rows w1 F1 A sz b es
  | [], _, _, _, _ => by simp [PL.rows]
  | e :: es, A, sz, b, h => by
    rw [PL.rows] at *
    obtain ⟨⟨h1, ad, ys, h2, h3, h4, h5⟩, h6⟩ := h
    exact ⟨⟨h1, ad, ys, h2, (hF _ h3).1, PL.ats_move hF e h4, fun j u hu => (cell_same (by rw [add_block]; exact (hF _ h3).2)).trans (h5 j u hu)⟩, PL.rows_move hF es h6⟩
end

theorem PL.ats_length : ∀ {ps : List PL} {ys : List Value}, PL.ats w F ps ys → ys.length = ps.length
  | [], [], _ => rfl
  | [], _ :: _, h => by simp [PL.ats] at h
  | _ :: _, [], h => by simp [PL.ats] at h
  | _ :: ps, _ :: ys, h => by
    rw [PL.ats] at h
    simp [PL.ats_length h.2]
theorem PL.ats_get : ∀ {ps : List PL} {ys : List Value}, PL.ats w F ps ys → ∀ {j : Nat} {p : PL}, ps[j]? = some p → ∃ y, ys[j]? = some y ∧ PL.at w F p y
  | [], _, _, j, p, h => by simp at h
  | _ :: _, [], h, _, _, _ => by simp [PL.ats] at h
  | q :: ps, y :: ys, h, 0, p, hp => by
    rw [PL.ats] at h
    simp at hp
    subst hp
    exact ⟨y, rfl, h.1⟩
  | q :: ps, y :: ys, h, j + 1, p, hp => by
    rw [PL.ats] at h
    simp at hp
    obtain ⟨z, hz, h'⟩ := PL.ats_get h.2 hp
    exact ⟨z, by simpa using hz, h'⟩
theorem PL.ats_mk : ∀ {ps : List PL} {ys : List Value}, ys.length = ps.length → (∀ (j : Nat) (p : PL) (y : Value), ps[j]? = some p → ys[j]? = some y → PL.at w F p y) → PL.ats w F ps ys
  | [], [], _, _ => by simp [PL.ats]
  | [], _ :: _, h, _ => by simp at h
  | _ :: _, [], h, _ => by simp at h
  | p :: ps, y :: ys, h, hj => by
    rw [PL.ats]
    exact ⟨hj 0 p y rfl rfl, PL.ats_mk (by simpa using h) (fun j q z h1 h2 => hj (j + 1) q z (by simpa using h1) (by simpa using h2))⟩
theorem PL.rows_get {A : Option Addr} {sz : Nat} : ∀ {es : List (List PL)} {b : Nat}, PL.rows w F A sz b es → ∀ {i : Nat} {e : List PL}, es[i]? = some e →
    e.length = sz ∧ ∃ ad ys, A = some ad ∧ F ad.block ∧ PL.ats w F e ys ∧ ∀ j u, ys[j]? = some u → w.cell? (ad.add ((b + i) * sz + j)) = some u
  | [], _, _, i, e, h => by simp at h
  | x :: es, b, h, 0, e, he => by
    rw [PL.rows] at h
    simp at he
    subst he
    exact h.1
  | x :: es, b, h, i + 1, e, he => by
    rw [PL.rows] at h
    simp at he
    have := PL.rows_get h.2 he
    rwa [Nat.add_right_comm b 1 i, Nat.add_assoc b i 1] at this
theorem PL.rows_mk {A : Option Addr} {sz : Nat} : ∀ {es : List (List PL)} {b : Nat}, (∀ (i : Nat) (e : List PL), es[i]? = some e → e.length = sz ∧ ∃ ad ys, A = some ad ∧ F ad.block ∧ PL.ats w F e ys ∧ ∀ j u, ys[j]? = some u → w.cell? (ad.add ((b + i) * sz + j)) = some u) → PL.rows w F A sz b es
  | [], _, _ => by simp [PL.rows]
  | x :: es, b, h => by
    rw [PL.rows]
    refine ⟨h 0 x rfl, PL.rows_mk fun i e he => ?_⟩
    have := h (i + 1) e (by simpa using he)
    rwa [← Nat.add_assoc b i 1, Nat.add_right_comm b i 1] at this

theorem PL.at_leaf {p : PL} {y : Value} (h : PL.at w F p y) : leaf y = true := by
  cases p with
  | v x => rw [PL.at] at h; rw [h.1]; exact h.2
  | sl es => rw [PL.at] at h; obtain ⟨A, c, sz, rfl, _⟩ := h; rfl
end

/-! ### 3. Abstract values -/
inductive AL where
  | p (x : PL)
  /-- A row of one's own (named b), its first n elements. -/
  | own (b n : Nat)
  | ptr (b o : Nat)
  /-- The nil slice. -/
  | nil
  /-- The place of cell o of cells that are read. -/
  | el (e : List PL) (o : Nat)
  /-- The place of element i, cell o, in a row of one's own with elements of sz cells. -/
  | oel (b i sz o : Nat)
  | clo (fn : Fn) (caps : List (Nat × Nat))
  | any

/-- A part of a tuple. -/
inductive TV where
  | one (x : AL)
  | agg (ps : List PL)

inductive AV where
  | one (x : AL)
  | agg (ps : List PL)
  /-- A struct value some of whose cells are not pure: by their numbers. -/
  | mix (ps : List PL) (ov : List (Nat × AL))
  | tup (l : List TV)

inductive Loc where
  | dead
  | nil
  | here (g cap : Nat)
abbrev Map := Nat → Loc

def AL.rep (β : Map) (w : World) (F : Nat → Prop) : AL → Value → Prop
  | .p x, y => PL.at w F x y
  | .own b n, y => match β b with
    | .dead => True
    | .nil => y = .slice none 0 0 ∧ n = 0
    | .here g cap => y = .slice (some ⟨g, 0, none⟩) n cap ∧ n ≤ cap
  | .ptr b o, y => match β b with
    | .here g _ => y = .pointer (some ⟨g, o, none⟩)
    | _ => True
  | .nil, y => y = .slice none 0 0
  | .oel b i sz o, y => match β b with
    | .here g _ => y = .pointer (some ⟨g, i * sz + o, none⟩)
    | _ => True
  | .el e o, y => ∃ (ad : Addr) (ys : List Value), y = .pointer (some (ad.add o)) ∧ F ad.block ∧ PL.ats w F e ys ∧ (∀ (j : Nat) (u : Value), ys[j]? = some u → w.cell? (ad.add j) = some u) ∧ o < e.length
  | .clo fn caps, y => ∃ vs : Array Value, y = .func fn #[] vs ∧ vs.size = caps.length ∧ ∀ (j b o : Nat), caps[j]? = some (b, o) → match β b with
    | .here g _ => vs[j]? = some (Value.pointer (some ⟨g, o, none⟩))
    | _ => True
  | .any, _ => True

/-- The cell j of a struct that is told by pure data and what stands over them. -/
def ovAt (ps : List PL) (ov : List (Nat × AL)) (j : Nat) : Option AL := match ov.lookup j with
  | some x => some x
  | none => (ps[j]?).map AL.p

def TV.rep (β : Map) (w : World) (F : Nat → Prop) : TV → Value → Prop
  | .one x, y => AL.rep β w F x y
  | .agg ps, y => ∃ ys : List Value, y = .agg ys.toArray ∧ PL.ats w F ps ys

def AV.rep (β : Map) (w : World) (F : Nat → Prop) : AV → Value → Prop
  | .one x, y => AL.rep β w F x y
  | .agg ps, y => ∃ ys : List Value, y = .agg ys.toArray ∧ PL.ats w F ps ys
  | .mix ps ov, y => ∃ ys : List Value, y = .agg ys.toArray ∧ ys.length = ps.length ∧ ∀ j x u, ovAt ps ov j = some x → ys[j]? = some u → AL.rep β w F x u
  | .tup l, y => ∃ ys : List Value, y = .tuple ys.toArray ∧ ys.length = l.length ∧ ∀ (j : Nat) (x : TV) (u : Value), l[j]? = some x → ys[j]? = some u → TV.rep β w F x u

structure Box where
  ty : TypeId
  ps : List PL
  ov : List (Nat × AL)

inductive HB where
  /-- A variable in memory, whole. -/
  | box (b : Box)
  /-- A row of one's own: elements of sz cells, pure. -/
  | row (ty : TypeId) (sz : Nat) (pl : Bool) (es : List (List PL))
  | gone

structure AS where
  n : Nat
  s : List (Nat × AV)
  h : List (Nat × HB)

/-! ### 4. When an abstract state tells of a frame and a world -/
/-- The library's variable that some walks read holds an integer, and nobody turns it. -/
def Glob (_ : Program) (M : Nat → Prop) (w : World) : Prop := ∀ g, gb = some g → ¬ M g ∧ ∃ m, w.cell? ⟨g, 0, none⟩ = some (.int .i64 m)
structure Ctx (P : Program) where
  w0 : World
  M : Nat → Prop
  pb : List (Nat × Nat)
  gl : Glob P M w0

def live (h : List (Nat × HB)) (β : Map) (k : Nat) : Prop := ∃ b x cap, h.lookup b = some x ∧ β b = .here k cap
def mp {P : Program} (C : Ctx P) (k : Nat) : Prop := ∃ b, (b, k) ∈ C.pb
def Mt {P : Program} (C : Ctx P) (h : List (Nat × HB)) (β : Map) (k : Nat) : Prop := C.M k ∨ live h β k

/-- The blocks that stay as they are. -/
def good (M : Nat → Prop) (w : World) (k : Nat) : Prop := k < w.heap.size ∧ ¬ M k
def ALs (M : Nat → Prop) (β : Map) (w : World) (x : AL) (y : Value) : Prop := AL.rep β w (good M w) x y
def AVs (M : Nat → Prop) (β : Map) (w : World) (x : AV) (y : Value) : Prop := AV.rep β w (good M w) x y
def PLs (M : Nat → Prop) (w : World) (x : PL) (y : Value) : Prop := PL.at w (good M w) x y

/-- What lies at a named place. -/
def HB.ok (M : Nat → Prop) (β : Map) (w : World) : HB → Loc → Prop
  | .box x, .here g _ => ∃ arr, w.heap[g]? = some (.cells arr x.ty (0, 0)) ∧ arr.size = x.ps.length ∧ ∀ j q u, ovAt x.ps x.ov j = some q → arr[j]? = some u → ALs M β w q u ∧ leaf u = true
  | .row _ sz _ es, .nil => es = [] ∧ 0 < sz
  | .gone, .dead => True
  | .row ty sz pl es, .here g cap => ∃ arr fz, w.heap[g]? = some (.cells arr ty fz) ∧ (pl = true → fz = (0, 0)) ∧ arr.size = cap * sz ∧ es.length ≤ cap ∧ cap ≤ maxLen ∧ (∀ j, j < arr.size → ¬ (fz.1 ≤ j ∧ j < fz.2)) ∧ 0 < sz ∧
      (∀ e ∈ es, e.length = sz) ∧ PL.ats w (good M w) es.flatten (arr.toList.take (es.length * sz))
  | _, _ => False

structure Rel {P : Program} (C : Ctx P) (σ : AS) (a : Act) (w : World) (β : Map) : Prop where
  defers : a.defers = []
  step : St (mp C) C.w0 w
  sub : ∀ k, C.M k → k < C.w0.heap.size
  pbM : ∀ b g, (b, g) ∈ C.pb → C.M g
  pbhi : ∀ b g, (b, g) ∈ C.pb → 1000 ≤ b
  pbl : ∀ b g, (b, g) ∈ C.pb → ∃ c, β b = .here g c
  heap : ∀ b x, σ.h.lookup b = some x → HB.ok (Mt C σ.h β) β w x (β b)
  young : ∀ b x g c, σ.h.lookup b = some x → β b = .here g c → g < w.heap.size ∧ (C.w0.heap.size ≤ g ∨ (b, g) ∈ C.pb)
  apart : ∀ b b' x x' g c c', σ.h.lookup b = some x → σ.h.lookup b' = some x' → β b = .here g c → β b' = .here g c' → b = b'
  size : a.tmps.size = σ.n
  slots : ∀ t x, σ.s.lookup t = some x → ∃ y, a.tmps[t]? = some y ∧ AVs (Mt C σ.h β) β w x y

def RelE {P : Program} (C : Ctx P) (σ : AS) (a : Act) (w : World) : Prop := ∃ β, Rel C σ a w β

/-! ### 4b. Moves -/
def AL.no (d : Nat) : AL → Bool
  | .own b _ => b != d
  | .ptr b _ => b != d
  | .oel b _ _ _ => b != d
  | .clo _ caps => caps.all fun x => x.1 != d
  | _ => true
def TV.no (d : Nat) : TV → Bool
  | .one x => x.no d
  | .agg _ => true
def AV.no (d : Nat) : AV → Bool
  | .one x => x.no d
  | .agg _ => true
  | .mix _ ov => ov.all fun x => x.2.no d
  | .tup l => l.all fun x => x.no d
def HB.no (d : Nat) : HB → Bool
  | .box x => x.ov.all fun y => y.2.no d
  | _ => true
def AS.no (d : Nat) (σ : AS) : Bool := (σ.s.all fun x => x.2.no d) && (σ.h.all fun x => x.1 != d && x.2.no d)

theorem lookup_mem {α : Type} : ∀ {l : List (Nat × α)} {k : Nat} {x : α}, l.lookup k = some x → (k, x) ∈ l
  | [], _, _, h => by simp at h
  | (j, y) :: l, k, x, h => by
    rw [List.lookup_cons] at h
    by_cases e : k = j
    · subst e
      simp at h
      subst h
      exact List.mem_cons_self
    · have : (k == j) = false := by simpa using e
      rw [this] at h
      exact List.mem_cons_of_mem _ (lookup_mem h)
theorem lookup_cons_self {α : Type} (l : List (Nat × α)) (k : Nat) (x : α) : ((k, x) :: l).lookup k = some x := by simp
theorem lookup_cons_ne {α : Type} (l : List (Nat × α)) {k j : Nat} (x : α) (h : k ≠ j) : ((j, x) :: l).lookup k = l.lookup k := by
  rw [List.lookup_cons]
  have : (k == j) = false := by simpa using h
  rw [this]

theorem AS.no_slot {d : Nat} {σ : AS} (h : σ.no d = true) {t : Nat} {x : AV} (hx : σ.s.lookup t = some x) : x.no d = true := by
  simp only [AS.no, Bool.and_eq_true, List.all_eq_true] at h
  exact h.1 _ (lookup_mem hx)
theorem AS.no_heap {d : Nat} {σ : AS} (h : σ.no d = true) {b : Nat} {x : HB} (hx : σ.h.lookup b = some x) : b ≠ d ∧ x.no d = true := by
  simp only [AS.no, Bool.and_eq_true, List.all_eq_true] at h
  have := h.2 _ (lookup_mem hx)
  simpa using this
theorem AS.no_look {d : Nat} {σ : AS} (h : σ.no d = true) : σ.h.lookup d = none := by
  cases e : σ.h.lookup d with
  | none => rfl
  | some x => exact absurd rfl (AS.no_heap h e).1

theorem good_move {M M1 : Nat → Prop} {w w1 : World} (h : St M w w1) (hM : ∀ k, k < w.heap.size → M1 k → M k) : ∀ k, good M w k → good M1 w1 k ∧ w1.heap[k]? = w.heap[k]? :=
  fun k hk => ⟨⟨Nat.lt_of_lt_of_le hk.1 h.size, fun hm => hk.2 (hM k hk.1 hm)⟩, h.same k hk.1 hk.2⟩
theorem St.via {M M1 : Nat → Prop} {w w1 w' : World} (h : St M w w1) (hM : ∀ k, k < w.heap.size → M1 k → M k) (h' : St M1 w1 w') : St M w w' :=
  ⟨h'.os.trans h.os, h'.tape.trans h.tape, h'.output.trans h.output, Nat.le_trans h.size h'.size,
    fun k hk hn => (h'.same k (Nat.lt_of_lt_of_le hk h.size) (fun hm => hn (hM k hk hm))).trans (h.same k hk hn)⟩

/-- The map turned, but not for what is spoken of. -/
def Tells (β β1 : Map) (no : Nat → Bool) : Prop := ∀ b, β1 b = β b ∨ β1 b = .dead ∨ no b = true
theorem Tells.refl (β : Map) (no : Nat → Bool) : Tells β β no := fun _ => .inl rfl

theorem AL.rep_turn {β β1 : Map} {w w1 : World} {F F1 : Nat → Prop} {x : AL} {y : Value} (h : AL.rep β w F x y) (hF : ∀ k, F k → F1 k ∧ w1.heap[k]? = w.heap[k]?) (hβ : Tells β β1 (fun b => x.no b)) : AL.rep β1 w1 F1 x y := by
  cases x with
  | p x => exact PL.at_move hF x h
  | any => trivial
  | nil => exact h
  | el e o =>
    obtain ⟨ad, ys, h1, h2, h3, h4, h5⟩ := h
    exact ⟨ad, ys, h1, (hF _ h2).1, PL.ats_move hF e h3, fun j u hu => (cell_same (by rw [add_block]; exact (hF _ h2).2)).trans (h4 j u hu), h5⟩
  | own b n =>
    simp only [AL.rep] at *
    rcases hβ b with e | e | e
    · rw [e]; exact h
    · rw [e]; trivial
    · simp [AL.no] at e
  | ptr b o =>
    simp only [AL.rep] at *
    rcases hβ b with e | e | e
    · rw [e]; exact h
    · rw [e]; trivial
    · simp [AL.no] at e
  | oel b i sz o =>
    simp only [AL.rep] at *
    rcases hβ b with e | e | e
    · rw [e]; exact h
    · rw [e]; trivial
    · simp [AL.no] at e
  | clo fn caps =>
    simp only [AL.rep] at *
    obtain ⟨vs, h1, h2, h3⟩ := h
    refine ⟨vs, h1, h2, fun j b o hj => ?_⟩
    rcases hβ b with e | e | e
    · rw [e]; exact h3 j b o hj
    · rw [e]; trivial
    · simp only [AL.no, List.all_eq_true] at e
      have := e _ (List.mem_of_getElem? hj)
      simp at this

theorem AV.rep_turn {β β1 : Map} {w w1 : World} {F F1 : Nat → Prop} {x : AV} {y : Value} (h : AV.rep β w F x y) (hF : ∀ k, F k → F1 k ∧ w1.heap[k]? = w.heap[k]?) (hβ : Tells β β1 (fun b => x.no b)) : AV.rep β1 w1 F1 x y := by
  cases x with
  | one x => exact AL.rep_turn h hF hβ
  | agg ps =>
    obtain ⟨ys, e, hp⟩ := h
    exact ⟨ys, e, PL.ats_move hF ps hp⟩
  | mix ps ov =>
    obtain ⟨ys, e, hl, hj⟩ := h
    refine ⟨ys, e, hl, fun j x u hx hu => AL.rep_turn (hj j x u hx hu) hF fun b => ?_⟩
    rcases hβ b with e | e | e
    · exact .inl e
    · exact .inr (.inl e)
    · refine .inr (.inr ?_)
      simp only [AV.no, List.all_eq_true] at e
      unfold ovAt at hx
      cases ho : ov.lookup j with
      | some z =>
        rw [ho] at hx
        simp at hx
        subst hx
        exact e _ (lookup_mem ho)
      | none =>
        rw [ho] at hx
        cases hp : ps[j]? with
        | none => simp [hp] at hx
        | some q =>
          simp [hp] at hx
          subst hx
          rfl
  | tup l =>
    obtain ⟨ys, e, hl, hj⟩ := h
    refine ⟨ys, e, hl, fun j x u hx hu => ?_⟩
    have hr := hj j x u hx hu
    cases x with
    | agg ps =>
      obtain ⟨zs, e, hp⟩ := hr
      exact ⟨zs, e, PL.ats_move hF ps hp⟩
    | one x =>
      refine AL.rep_turn hr hF fun b => ?_
      rcases hβ b with e | e | e
      · exact .inl e
      · exact .inr (.inl e)
      · refine .inr (.inr ?_)
        simp only [AV.no, List.all_eq_true] at e
        exact e _ (List.mem_of_getElem? hx)

theorem AVs.move {M M1 : Nat → Prop} {β β1 : Map} {w w1 : World} {x : AV} {y : Value} (h : AVs M β w x y) (hst : St M w w1) (hM : ∀ k, k < w.heap.size → M1 k → M k)
    (hβ : Tells β β1 (fun b => x.no b)) : AVs M1 β1 w1 x y := AV.rep_turn h (good_move hst hM) hβ
theorem ALs.move {M M1 : Nat → Prop} {β β1 : Map} {w w1 : World} {x : AL} {y : Value} (h : ALs M β w x y) (hst : St M w w1) (hM : ∀ k, k < w.heap.size → M1 k → M k)
    (hβ : Tells β β1 (fun b => x.no b)) : ALs M1 β1 w1 x y := AL.rep_turn h (good_move hst hM) hβ
theorem PLs.move {M M1 : Nat → Prop} {w w1 : World} {x : PL} {y : Value} (h : PLs M w x y) (hst : St M w w1) (hM : ∀ k, k < w.heap.size → M1 k → M k) : PLs M1 w1 x y := PL.at_move (good_move hst hM) x h

theorem ovAt_no {ps : List PL} {ov : List (Nat × AL)} {j d : Nat} {q : AL} (h : ovAt ps ov j = some q) (hno : (ov.all fun y => y.2.no d) = true) : q.no d = true := by
  unfold ovAt at h
  cases ho : ov.lookup j with
  | some z =>
    rw [ho] at h
    simp at h
    subst h
    simp only [List.all_eq_true] at hno
    exact hno _ (lookup_mem ho)
  | none =>
    rw [ho] at h
    cases hp : ps[j]? with
    | none => simp [hp] at h
    | some x =>
      simp [hp] at h
      subst h
      rfl

theorem HB.ok_move {M M1 : Nat → Prop} {β β1 : Map} {w w1 : World} {x : HB} {l : Loc} (h : HB.ok M β w x l) (hst : St M w w1) (hM : ∀ k, k < w.heap.size → M1 k → M k)
    (hβ : Tells β β1 (fun b => x.no b)) (hb : ∀ g c, l = .here g c → w1.heap[g]? = w.heap[g]?) : HB.ok M1 β1 w1 x l := by
  cases x with
  | box x =>
    cases l with
    | here g c =>
      obtain ⟨arr, h1, h2, h3⟩ := h
      refine ⟨arr, (hb g c rfl).trans h1, h2, fun j q u hq hu => ⟨ALs.move (h3 j q u hq hu).1 hst hM fun b => ?_, (h3 j q u hq hu).2⟩⟩
      rcases hβ b with e | e | e
      · exact .inl e
      · exact .inr (.inl e)
      · exact .inr (.inr (ovAt_no hq e))
    | nil => exact h.elim
    | dead => exact h.elim
  | row ty sz pl es =>
    cases l with
    | here g c =>
      obtain ⟨arr, fz, h1, h2, h3, h4, h5, h6, h7, h8, h9⟩ := h
      exact ⟨arr, fz, (hb g c rfl).trans h1, h2, h3, h4, h5, h6, h7, h8, PL.ats_move (good_move hst hM) _ h9⟩
    | nil => exact h
    | dead => exact h.elim
  | gone =>
    cases l with
    | dead => trivial
    | nil => exact h.elim
    | here g c => exact h.elim

theorem HB.ok_lt {M : Nat → Prop} {β : Map} {w : World} {x : HB} {g c : Nat} (h : HB.ok M β w x (.here g c)) : g < w.heap.size := by
  cases x with
  | box x => obtain ⟨arr, h1, _⟩ := h; exact (Array.getElem?_eq_some_iff.1 h1).1
  | row ty sz pl es => obtain ⟨arr, fz, h1, _⟩ := h; exact (Array.getElem?_eq_some_iff.1 h1).1
  | gone => exact h.elim

/-! ### 5. The judgements -/
def Aw (P : Program) (C : Ctx P) (c : Code) (σ : AS) (Q : Exit → AS → Prop) : Prop :=
  ∀ a w, RelE C σ a w → c.wp P (fun x a' w' => ∃ σ', Q x σ' ∧ RelE C σ' a' w') a w

def AwOp (P : Program) (C : Ctx P) (o : Oper) (σ : AS) (K : AS → Prop) : Prop :=
  ∀ a w, RelE C σ a w → ∀ Q, o.wp P a w (fun a' w' => ∃ σ', K σ' ∧ RelE C σ' a' w') Q

def AwOps (P : Program) (C : Ctx P) (ops : Array Oper) (l : List Nat) (σ : AS) (K : AS → Prop) : Prop :=
  ∀ a w, RelE C σ a w → ∀ Q : Exit → Act → World → Prop, (∀ a' w' σ', K σ' → RelE C σ' a' w' → Q .normal a' w') → wpOps P ops Q l a w

variable {P : Program} {C : Ctx P} {σ : AS}

theorem Aw.mono {c : Code} {Q Q' : Exit → AS → Prop} (h : Aw P C c σ Q) (hq : ∀ x σ', Q x σ' → Q' x σ') : Aw P C c σ Q' :=
  fun a w hr => wp_mono (h a w hr) (fun _ _ _ ⟨σ', q, r⟩ => ⟨σ', hq _ _ q, r⟩)

theorem Aw.skip {Q : Exit → AS → Prop} (h : Q .normal σ) : Aw P C .skip σ Q := fun _ _ hr => wp_skip ⟨σ, h, hr⟩
theorem Aw.exit {Q : Exit → AS → Prop} {id : Nat} (h : Q (.exit id) σ) : Aw P C (.exit id) σ Q := fun _ _ hr => wp_exit ⟨σ, h, hr⟩
theorem Aw.ret {Q : Exit → AS → Prop} (h : Q .ret σ) : Aw P C .ret σ Q := fun _ _ hr => wp_ret ⟨σ, h, hr⟩

def thn (K : AS → Prop) (Q : Exit → AS → Prop) : Exit → AS → Prop
  | .normal, σ => K σ
  | x, σ => Q x σ

theorem Aw.seq {x y : Code} {Q : Exit → AS → Prop} (h : Aw P C x σ (thn (fun σ' => Aw P C y σ' Q) Q)) : Aw P C (.seq x y) σ Q := by
  intro a w hr
  refine wp_seq (wp_mono (h a w hr) ?_)
  intro e a' w' ⟨σ', q, r⟩
  cases e with
  | normal => exact q a' w' r
  | _ => exact ⟨σ', q, r⟩

def inB (id : Nat) (Q : Exit → AS → Prop) : Exit → AS → Prop
  | .exit id', σ => if id' = id then Q .normal σ else Q (.exit id') σ
  | x, σ => Q x σ

theorem Aw.block {id : Nat} {c : Code} {Q : Exit → AS → Prop} (h : Aw P C c σ (inB id Q)) : Aw P C (.block id c) σ Q := by
  intro a w hr
  refine wp_block (wp_mono (h a w hr) ?_)
  intro e a' w' ⟨σ', q, r⟩
  cases e with
  | exit id' =>
    by_cases hid : id' = id
    · simp only [inB, hid, if_true] at q
      simp only [Exit.inBlock, hid, if_true]
      exact ⟨σ', q, r⟩
    · simp only [inB, hid, if_false] at q
      simp only [Exit.inBlock, hid, if_false]
      exact ⟨σ', q, r⟩
  | _ => exact ⟨σ', q, r⟩

/-- A test on a slot that holds a Bool. -/
theorem Aw.cond {t : Tmp} {x y : Code} {b : Bool} {Q : Exit → AS → Prop} (hs : σ.s.lookup t = some (.one (.p (.v (.bool b)))))
    (ht : b = true → Aw P C x σ Q) (hf : b = false → Aw P C y σ Q) : Aw P C (.cond (.tmp t) x y) σ Q := by
  intro a w hr
  obtain ⟨β, r⟩ := hr
  obtain ⟨v, hv, hrep⟩ := r.slots t _ hs
  have he : a.eval (.tmp t) = .bool b := by simp [Act.eval, hv, hrep.1]
  cases b with
  | true => exact wp_cond_true he (ht rfl a w ⟨β, r⟩)
  | false => exact wp_cond_false he (hf rfl a w ⟨β, r⟩)

/-- What is told less. -/
structure Le (σ τ : AS) : Prop where
  s : ∀ t x, τ.s.lookup t = some x → σ.s.lookup t = some x
  h : ∀ b x, τ.h.lookup b = some x → σ.h.lookup b = some x

theorem Le.refl (σ : AS) : Le σ σ := ⟨fun _ _ h => h, fun _ _ h => h⟩

end Go.Proofs.YtbdgmondalkhlaaDoor.Aw
