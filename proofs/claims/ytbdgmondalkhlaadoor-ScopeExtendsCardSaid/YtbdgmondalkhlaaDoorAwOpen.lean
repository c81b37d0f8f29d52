
/- Readings of arguments: a reading of pure data tells how they lie in memory.
   Conditions: none; generic in the program. -/
import Derived.Test.YtbdgmondalkhlaaDoorAwFn
import Derived.ChangeSlices
namespace Go.Proofs.YtbdgmondalkhlaaDoor.Aw
open Go
section
variable {P : Program} {w : World}
/-- What can be read at the type t lies as the pure data f a, for some a. -/
def Opens {α : Type} (P : Program) (w : World) (t : TypeId) (f : α → List PL) : Prop :=
  ∀ {H : Type} (enc : TypeId × Value → H) (spare : Nat → Bool) (held : Bool) (fuel : Nat) (cs : List Value) (x : DataW H × List MemPlace),
    DataW.trod enc P w 0 spare held fuel t cs = some x → ∃ a, PL.ats w (good (fun _ => False) w) (f a) cs
theorem opn_ats1 {F : Nat → Prop} {p : PL} {y : Value} (h : PL.at w F p y) : PL.ats w F [p] [y] := by
  rw [PL.ats]
  exact ⟨h, by simp [PL.ats]⟩
theorem opn_app {F : Nat → Prop} : ∀ {p q : List PL} {ys zs : List Value}, PL.ats w F p ys → PL.ats w F q zs → PL.ats w F (p ++ q) (ys ++ zs)
  | [], _, [], _, _, h => h
  | [], _, _ :: _, _, h, _ => by simp [PL.ats] at h
  | _ :: _, _, [], _, h, _ => by simp [PL.ats] at h
  | x :: p, q, y :: ys, zs, h, k => by
    rw [PL.ats] at h
    rw [List.cons_append, List.cons_append, PL.ats]
    exact ⟨h.1, opn_app h.2 k⟩
theorem opens_int {t : TypeId} {k : IntKind} (ht : P.underlying t = some (.int k)) : Opens P w t (fun n : Int => [.v (.int k n)]) := fun _ _ _ _ _ _ h => by
  obtain ⟨n, rfl, _⟩ := DataW.trod_int ht h
  exact ⟨n, opn_ats1 (by rw [PL.at]; exact ⟨rfl, rfl⟩)⟩
theorem opens_bool {t : TypeId} (ht : P.underlying t = some .bool) : Opens P w t (fun b : Bool => [.v (.bool b)]) := fun _ _ _ _ _ _ h => by
  obtain ⟨b, rfl, _⟩ := DataW.trod_bool ht h
  exact ⟨b, opn_ats1 (by rw [PL.at]; exact ⟨rfl, rfl⟩)⟩
theorem opens_string {t : TypeId} (ht : P.underlying t = some .string) : Opens P w t (fun s : ByteArray => [.v (.string s)]) := fun _ _ _ _ _ _ h => by
  obtain ⟨s, rfl, _⟩ := DataW.trod_string ht h
  exact ⟨s, opn_ats1 (by rw [PL.at]; exact ⟨rfl, rfl⟩)⟩
theorem opens_map {α β : Type} {t : TypeId} {f : α → List PL} {g : β → List PL} (φ : α → β) (ho : Opens P w t f) (h : ∀ a, f a = g (φ a)) : Opens P w t g := fun enc spare held fuel cs x hx => by
  obtain ⟨a, ha⟩ := ho enc spare held fuel cs x hx
  exact ⟨φ a, h a ▸ ha⟩
theorem opn_pick {α : Type} {p : Nat → α → Prop} : ∀ n : Nat, (∀ i, i < n → ∃ a, p i a) → ∃ l : List α, l.length = n ∧ ∀ i a, l[i]? = some a → p i a
  | 0, _ => ⟨[], rfl, fun i a h => by simp at h⟩
  | n + 1, h => by
    obtain ⟨l, hl, hp⟩ := opn_pick n fun i hi => h i (by omega)
    obtain ⟨a, ha⟩ := h n (by omega)
    refine ⟨l ++ [a], by simp [hl], fun i b hb => ?_⟩
    rcases Nat.lt_or_ge i l.length with hi | hi
    · rw [List.getElem?_append_left hi] at hb
      exact hp i b hb
    · rw [List.getElem?_append_right hi] at hb
      have h0 : i - l.length = 0 := by
        have := (List.getElem?_eq_some_iff.1 hb).1
        simp at this
        omega
      rw [h0] at hb
      injection hb with hb
      subst hb
      rwa [show i = n by omega]
theorem opn_add (a : Addr) (m n : Nat) : a.add (m + n) = (a.add m).add n := by
  unfold Addr.add
  by_cases hm : m = 0
  · simp [hm]
  · by_cases hn : n = 0
    · simp [hm, hn]
    · simp [hm, hn, Nat.add_assoc]
theorem opens_slice {α : Type} {t e : TypeId} {f : α → List PL} (ht : P.underlying t = some (.slice e)) (hs : Nat.blt 0 (P.cellsOf e) = true) (he : Opens P w e f) : Opens P w t (fun l : List α => [.sl (l.map f)]) := fun enc spare held fuel cs x h => by
  replace hs : 0 < P.cellsOf e := by simpa using hs
  rcases DataW.trod_slice ht h with ⟨rfl, _⟩ | ⟨a, len, cap, elems, rest, n, _, rfl, _, _, hl, hm, hlen, hel, _, _⟩
  · refine ⟨[], opn_ats1 ?_⟩
    rw [PL.at]
    exact ⟨none, 0, 0, rfl, fit0, by simp [PL.rows]⟩
  · have each : ∀ i, i < len → ∃ a0, ∃ ys, w.cells? 0 (a.add (i * P.cellsOf e)) (P.cellsOf e) = some ys ∧ PL.ats w (good (fun _ => False) w) (f a0) ys := fun i hi => by
      have h1 := hel i hi
      obtain ⟨y, hy⟩ : ∃ y, elems[i]? = some y := ⟨_, List.getElem?_eq_getElem (by omega)⟩
      rw [hy, Option.bind_eq_some_iff] at h1
      obtain ⟨ys, hys, h2⟩ := h1
      obtain ⟨a0, ha0⟩ := he enc spare held n ys y h2
      exact ⟨a0, ys, hys, ha0⟩
    obtain ⟨l, hll, hp⟩ := opn_pick len each
    refine ⟨l, opn_ats1 ?_⟩
    rw [PL.at]
    refine ⟨some a, cap, P.cellsOf e, by simp [hll], ⟨by simp [hll]; omega, hm⟩, PL.rows_mk fun i q hq => ?_⟩
    rw [List.getElem?_map] at hq
    cases hli : l[i]? with
    | none => rw [hli] at hq; cases hq
    | some a0 =>
      rw [hli] at hq
      injection hq with hq
      subst hq
      obtain ⟨ys, hys, hat⟩ := hp i a0 hli
      obtain ⟨_, hn, hc⟩ := World.cells?_some hys
      have hcell : ∀ j u, ys[j]? = some u → w.cell? (a.add ((0 + i) * P.cellsOf e + j)) = some u := fun j u hu => by
        have hj : j < P.cellsOf e := by
          have := (List.getElem?_eq_some_iff.1 hu).1
          omega
        have := hc j hj
        rw [hu] at this
        rw [Nat.zero_add, ← this, opn_add]
      refine ⟨by rw [← PL.ats_length hat, hn], a, ys, rfl, ⟨?_, fun h => h⟩, hat, hcell⟩
      obtain ⟨u, hu⟩ : ∃ u, ys[0]? = some u := ⟨_, List.getElem?_eq_getElem (by omega)⟩
      have := hcell 0 u hu
      rcases Nat.lt_or_ge a.block w.heap.size with hb | hb
      · exact hb
      · have hnone : w.heap[(a.add ((0 + i) * P.cellsOf e + 0)).block]? = none := by rw [add_block]; simp [hb]
        unfold World.cell? at this
        rw [hnone] at this
        cases this
/-- The same of a row of fields, from the cell o to the cell e. -/
def OpensF {α : Type} (P : Program) (w : World) (fs : List Field) (o e : Nat) (f : α → List PL) : Prop :=
  o ≤ e ∧ ∀ {H : Type} (enc : TypeId × Value → H) (spare : Nat → Bool) (held : Bool) (n : Nat) (cs : List Value), cs.length = e →
    (∀ fl ∈ fs, ∃ x : DataW H × List MemPlace, DataW.trod enc P w 0 spare held n fl.type ((cs.drop fl.offset).take (P.cellsOf fl.type)) = some x) → ∃ a, PL.ats w (good (fun _ => False) w) (f a) (cs.drop o)
theorem opensF_nil {e : Nat} : OpensF P w [] e e (fun _ : Unit => []) := ⟨Nat.le_refl _, fun _ _ _ _ cs h _ => ⟨(), by rw [List.drop_of_length_le (by omega)]; simp [PL.ats]⟩⟩
theorem opensF_cons {α β : Type} {fl : Field} {fs : List Field} {o e c : Nat} {f : α → List PL} {g : β → List PL} (ho : fl.offset = o) (hc : P.cellsOf fl.type = c) (hf : Opens P w fl.type f) (hg : OpensF P w fs (o + c) e g) :
    OpensF P w (fl :: fs) o e (fun x : α × β => f x.1 ++ g x.2) := ⟨by have := hg.1; omega, fun enc spare held n cs hl h => by
  subst ho hc
  obtain ⟨x, hx⟩ := h fl (by simp)
  obtain ⟨a, ha⟩ := hf enc spare held n _ x hx
  obtain ⟨b, hb⟩ := hg.2 enc spare held n cs hl fun k hk => h k (by simp [hk])
  refine ⟨(a, b), ?_⟩
  have := opn_app ha hb
  rwa [← List.drop_drop, List.take_append_drop] at this⟩
theorem opens_struct {α : Type} {t : TypeId} {fs : Array Field} {c : Nat} {f : α → List PL} (ht : P.underlying t = some (.struct fs)) (hc : P.cellsOf t = c) (hf : OpensF P w fs.toList 0 c f) : Opens P w t f := fun enc spare held fuel cs x h => by
  obtain ⟨xs, n, _, _, hl, hxs, hi⟩ := DataW.trod_struct ht h
  have := hf.2 enc spare held n cs (by omega) fun fl hfl => by
    obtain ⟨i, hi', rfl⟩ := List.mem_iff_getElem.1 hfl
    have hs : i < fs.size := by simpa using hi'
    refine ⟨xs[i]'(by omega), ?_⟩
    rw [hi i _ (by simp [hs])]
    exact List.getElem?_eq_getElem _
  simpa using this
/-- An argument that is read, as abstract data. -/
theorem opens_agg {α H : Type} {t : TypeId} {f : α → List PL} (ho : Opens P w t f) {enc : TypeId × Value → H} {spare : Nat → Bool} {held : Bool} {ys : Array Value} {d : DataW H} {p : List MemPlace} (h : DataW.Trod enc P w 0 spare held t (.agg ys) d p) :
    ∃ a, AVs (fun _ => False) (fun _ => .dead) w (.agg (f a)) (.agg ys) := by
  obtain ⟨fuel, hf⟩ := h
  obtain ⟨a, ha⟩ := ho enc spare held fuel _ _ hf
  exact ⟨a, ys.toList, by simp, by simpa [Value.cells] using ha⟩
theorem opens_one {α H : Type} {t : TypeId} {f : α → PL} (ho : Opens P w t (fun a => [f a])) {enc : TypeId × Value → H} {spare : Nat → Bool} {held : Bool} {v : Value} {d : DataW H} {p : List MemPlace} (hv : v.cells = #[v]) (h : DataW.Trod enc P w 0 spare held t v d p) :
    ∃ a, AVs (fun _ => False) (fun _ => .dead) w (.one (.p (f a))) v := by
  obtain ⟨fuel, hf⟩ := h
  obtain ⟨a, ha⟩ := ho enc spare held fuel _ _ hf
  rw [hv] at ha
  rw [PL.ats] at ha
  exact ⟨a, ha.1⟩
end
end Go.Proofs.YtbdgmondalkhlaaDoor.Aw
