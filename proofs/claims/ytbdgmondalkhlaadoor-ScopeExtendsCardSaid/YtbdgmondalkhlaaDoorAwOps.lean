
/- Operations over abstract states: values.
   Conditions: none; generic in the program. -/
import Derived.Test.YtbdgmondalkhlaaDoorAwRel
namespace Go.Proofs.YtbdgmondalkhlaaDoor.Aw
open Go

/-! ### 1. What is known of types -/
inductive TK where
  | sct (fs : List (Nat × Nat × Bool))
  | arr (n elem sz : Nat) (ag : Bool)
  | sli (elem sz : Nat) (ag : Bool)
  | int (k : IntKind)
  | str
  | bool
  | ptr (elem : Nat)
  | other
structure TI where
  kd : TK
  ag : Bool
  size : Nat
  bytes : Nat
  zero : List PL
def aggT (P : Program) (t : TypeId) : Bool := match P.underlying t with
  | some (.struct _) => true
  | some (.array _ _) => true
  | _ => false
def sizeT (P : Program) (t : TypeId) : Option Nat := match P.info? t, P.underlying t with
  | some i, some _ => some i.size
  | _, _ => none
theorem sizeT_ok {P : Program} {t : TypeId} {n : Nat} (h : sizeT P t = some n) : ∃ x d, P.info? t = some x ∧ P.underlying t = some d ∧ x.size = n := by
  unfold sizeT at h
  split at h
  · rename_i i d hi hd
    injection h with h
    exact ⟨i, d, hi, hd, h⟩
  · cases h
def tkOf (P : Program) : TypeDesc → TK
  | .struct fs => match fs.toList.mapM fun f => (sizeT P f.type).map fun s => (f.offset, s, aggT P f.type) with
    | some l => .sct l
    | none => .other
  | .array n e => match sizeT P e with
    | some s => .arr n e s (aggT P e)
    | none => .other
  | .slice e => match sizeT P e with
    | some s => .sli e s (aggT P e)
    | none => .other
  | .int k => .int k
  | .string => .str
  | .bool => .bool
  | .pointer e => .ptr e
  | _ => .other
def tiOf (P : Program) (t : TypeId) : Option TI := match P.info? t, P.underlying t with
  | some i, some d => match i.zero with
    | some z => if z.cells.toList.all leaf then some ⟨tkOf P d, aggT P t, i.size, i.bytes, z.cells.toList.map cpl⟩ else none
    | none => none
  | _, _ => none
abbrev TT := List (Nat × TI)
def ttOf (P : Program) (l : List Nat) : TT := l.filterMap fun t => (tiOf P t).map fun i => (t, i)
def TT.ok (P : Program) (T : TT) : Prop := ∀ t i, T.lookup t = some i → tiOf P t = some i
theorem TT.ok_of {P : Program} {T : TT} (l : List Nat) (h : ttOf P l = T) : TT.ok P T := by
  intro t i hi
  subst h
  have := lookup_mem hi
  simp only [ttOf, List.mem_filterMap, Option.map_eq_some_iff] at this
  obtain ⟨u, _, j, hj, e⟩ := this
  injection e with e1 e2
  subst e1 e2
  exact hj

section
variable {P : Program} {w : World}
theorem TI.info {t : TypeId} {i : TI} (h : tiOf P t = some i) : ∃ x d z, P.info? t = some x ∧ P.underlying t = some d ∧ x.zero = some z ∧ x.size = i.size ∧ x.bytes = i.bytes ∧ tkOf P d = i.kd ∧ aggT P t = i.ag ∧
    z.cells.toList.map cpl = i.zero ∧ z.cells.toList.all leaf = true := by
  unfold tiOf at h
  split at h
  · rename_i x d hx hd
    split at h
    · rename_i z hz
      split at h
      · rename_i hl
        injection h with h
        subst h
        exact ⟨x, d, z, hx, hd, hz, rfl, rfl, rfl, rfl, rfl, hl⟩
      · cases h
    · cases h
  · cases h

theorem run_underlying' {t : TypeId} {d : TypeDesc} (h : P.underlying t = some d) : (underlying t).run P w = .ok d w := by simp [underlying, program, Sem.run, Sem.run_bind, h]
theorem run_size' {t : TypeId} {x : TypeInfo} (h : P.info? t = some x) : (sizeOf t).run P w = .ok x.size w := by simp [sizeOf, typeInfo, program, Sem.run, Sem.run_bind, h]
theorem run_zero' {t : TypeId} {x : TypeInfo} {z : Value} (h : P.info? t = some x) (hz : x.zero = some z) : (zeroValue t).run P w = .ok z w := by simp [zeroValue, typeInfo, program, Sem.run, Sem.run_bind, h, hz]
theorem run_isAgg' {t : TypeId} {d : TypeDesc} (h : P.underlying t = some d) : (isAgg t).run P w = .ok (aggT P t) w := by
  simp only [isAgg, Sem.run_bind, run_underlying' h, Result.andThen_ok, aggT, h]
  cases d <;> rfl

/-! ### 2. Cells -/
theorem add_at (g o i : Nat) : (⟨g, o, none⟩ : Addr).add i = ⟨g, o + i, none⟩ := by unfold Addr.add; split <;> simp_all
theorem add_assoc' (a : Addr) (i j : Nat) : (a.add i).add j = a.add (i + j) := by
  unfold Addr.add
  by_cases hi : i = 0
  · subst hi; by_cases hj : j = 0 <;> simp [hj]
  · by_cases hj : j = 0
    · subst hj; simp [hi]
    · simp [hi, hj, Nat.add_assoc]

theorem run_loadCellsFrom : ∀ (ys : List Value) (a : Addr) (i : Nat) (acc : Array Value), (∀ (j : Nat) (u : Value), ys[j]? = some u → w.cell? (a.add (i + j)) = some u) →
    (loadCellsFrom a i ys.length acc).run P w = .ok (acc ++ ys.toArray) w
  | [], a, i, acc, _ => by simp [loadCellsFrom]
  | y :: ys, a, i, acc, h => by
    have h0 := h 0 y rfl
    simp only [Nat.add_zero] at h0
    simp only [List.length_cons, loadCellsFrom, Sem.run_bind, load, Sem.run, h0, Result.andThen_ok]
    rw [run_loadCellsFrom ys a (i + 1) (acc.push y) (fun j u hu => by rw [Nat.add_assoc, Nat.add_comm 1 j]; exact h (j + 1) u (by simpa using hu))]
    congr 1
    apply Array.ext'
    simp
theorem run_loadCells (ys : List Value) (a : Addr) (h : ∀ (j : Nat) (u : Value), ys[j]? = some u → w.cell? (a.add j) = some u) : (loadCells a ys.length).run P w = .ok ys.toArray w := by
  rw [loadCells, run_loadCellsFrom ys a 0 #[] (fun j u hu => by rw [Nat.zero_add]; exact h j u hu)]
  simp
theorem run_loadVar_agg {t : TypeId} {i : TI} (ht : tiOf P t = some i) (hag : i.ag = true) (ys : List Value) (hl : ys.length = i.size) (a : Addr) (h : ∀ (j : Nat) (u : Value), ys[j]? = some u → w.cell? (a.add j) = some u) :
    (loadVar t a).run P w = .ok (.agg ys.toArray) w := by
  obtain ⟨x, d, z, h1, h2, h3, h4, h5, h6, h7, _⟩ := TI.info ht
  simp only [loadVar, Sem.run_bind, run_isAgg' h2, Result.andThen_ok, h7, hag, if_true, run_size' h1, h4, ← hl, run_loadCells ys a h, Sem.run_pure]
theorem run_loadVar_one {t : TypeId} {i : TI} (ht : tiOf P t = some i) (hag : i.ag = false) (y : Value) (a : Addr) (h : w.cell? a = some y) : (loadVar t a).run P w = .ok y w := by
  obtain ⟨x, d, z, h1, h2, h3, h4, h5, h6, h7, _⟩ := TI.info ht
  simp [loadVar, Sem.run_bind, run_isAgg' h2, h7, hag, load, Sem.run, h]

/-- A block of cells is replaced. -/
def setBlk (w : World) (g : Nat) (o : Obj) : World := { w with heap := w.heap.setIfInBounds g o }
theorem setBlk_st {M : Nat → Prop} (w : World) (g : Nat) (o : Obj) (h : M g) : St M w (setBlk w g o) :=
  ⟨rfl, rfl, rfl, by simp [setBlk], fun k hk hm => by
    have : g ≠ k := fun e => hm (e ▸ h)
    simp [setBlk, this]⟩
theorem setBlk_at (w : World) (g : Nat) (o : Obj) (h : g < w.heap.size) : (setBlk w g o).heap[g]? = some o := by simp [setBlk, h]
theorem setBlk_set (w : World) (g : Nat) (o o' : Obj) : setBlk (setBlk w g o) g o' = setBlk w g o' := by simp [setBlk]

theorem run_storeCells {g : Nat} {ty : TypeId} {fz : Nat × Nat} : ∀ (vs : List Value) (w : World) (arr : Array Value) (o i : Nat), w.heap[g]? = some (.cells arr ty fz) → o + i + vs.length ≤ arr.size →
    (∀ j, j < arr.size → ¬ (fz.1 ≤ j ∧ j < fz.2)) → (∀ u ∈ vs, leaf u = true) →
    ∃ arr', (storeCells ⟨g, o, none⟩ vs i).run P w = .ok () (setBlk w g (.cells arr' ty fz)) ∧ arr'.size = arr.size ∧ ∀ j, arr'[j]? = if o + i ≤ j ∧ j < o + i + vs.length then vs[j - (o + i)]? else arr[j]?
  | [], w, arr, o, i, hw, _, _, _ => ⟨arr, by
      have : setBlk w g (.cells arr ty fz) = w := by
        simp only [setBlk]
        congr 1
        apply Array.ext_getElem?
        intro k
        rw [Array.getElem?_setIfInBounds]
        by_cases e : g = k
        · subst e; rw [if_pos rfl, if_pos (Array.getElem?_eq_some_iff.1 hw).1, hw]
        · simp [e]
      simp [storeCells, this], rfl, fun j => by simp; intro h1 h2; omega⟩
  | v :: vs, w, arr, o, i, hw, hl, hf, hv => by
    have hlt : o + i < arr.size := by simp at hl; omega
    have hg : g < w.heap.size := (Array.getElem?_eq_some_iff.1 hw).1
    have hc : w.cell? ⟨g, o + i, none⟩ = some arr[o + i] := by simp [World.cell?, hw, hlt]
    have hfz : w.frozen? ⟨g, o + i, none⟩ = false := by
      have := hf (o + i) hlt
      obtain ⟨lo, hi⟩ := fz
      simp only [World.frozen?, hw]
      simpa using this
    have hset : w.setCell ⟨g, o + i, none⟩ v = setBlk w g (.cells (arr.setIfInBounds (o + i) v) ty fz) := by
      simp only [World.setCell, setBlk]
      congr 1
      apply Array.ext_getElem?
      intro k
      rw [Array.getElem?_modify, Array.getElem?_setIfInBounds]
      by_cases e : g = k
      · subst e; rw [hw]; simp [hg]
      · simp [e]
    have hleaf := hv v List.mem_cons_self
    obtain ⟨arr', h1, h2, h3⟩ := run_storeCells vs (setBlk w g (.cells (arr.setIfInBounds (o + i) v) ty fz)) (arr.setIfInBounds (o + i) v) o (i + 1) (setBlk_at _ _ _ hg) (by simp at hl ⊢; omega) (by simpa using hf) (fun u hu => hv u (List.mem_cons_of_mem _ hu))
    refine ⟨arr', ?_, by simpa using h2, fun j => ?_⟩
    · simp only [storeCells, Sem.run_bind, add_at, store]
      have : (Sem.store .plain ⟨g, o + i, none⟩ v (.pure ())).run P w = .ok () (setBlk w g (.cells (arr.setIfInBounds (o + i) v) ty fz)) := by
        cases v <;> first | (simp [leaf] at hleaf; done) | simp only [Sem.run, hc, hfz, hset, Bool.false_eq_true, if_false]
      rw [this]
      simp only [Result.andThen_ok]
      rw [h1, setBlk_set]
    · rw [h3 j]
      simp only [List.length_cons]
      by_cases hj : o + i = j
      · subst hj
        rw [if_neg (by omega), if_pos (by omega)]
        simp [hlt]
      · by_cases hin : o + (i + 1) ≤ j ∧ j < o + (i + 1) + vs.length
        · rw [if_pos hin, if_pos (by omega)]
          have : j - (o + i) = (j - (o + (i + 1))) + 1 := by omega
          rw [this]
          simp
        · rw [if_neg hin, if_neg (by omega), Array.getElem?_setIfInBounds]
          simp [hj]
end
end Go.Proofs.YtbdgmondalkhlaaDoor.Aw
