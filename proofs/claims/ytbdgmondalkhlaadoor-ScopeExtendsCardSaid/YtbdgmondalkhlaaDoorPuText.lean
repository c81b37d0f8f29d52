
/- Both foldings of texts are the same. No program in sight.
   Conditions: none. -/
import Derived.Test.YtbdgmondalkhlaaDoorWkText
namespace Go.Proofs.YtbdgmondalkhlaaDoor.Aw
open Go

theorem low_gap (c : UInt8) : (low c).toNat = 32 ↔ c.toNat = 32 := by
  unfold low
  split
  · rename_i h
    have : (c + 32).toNat = (c.toNat + 32) % 256 := by simp [UInt8.toNat_add]
    omega
  · exact Iff.rfl
/-- What the two have when they have read the same: out is told by the one as it is, by the other with the gap. -/
def same2 (st : List UInt8 × Bool) (r : List UInt8) : Prop :=
  (st.2 = false ∧ r = st.1 ∧ (∀ l, st.1.getLast? = some l → l.toNat ≠ 32)) ∨ (st.2 = true ∧ st.1 ≠ [] ∧ r = st.1 ++ [32] ∧ (∀ l, st.1.getLast? = some l → l.toNat ≠ 32))
theorem same2_step {st : List UInt8 × Bool} {r : List UInt8} (h : same2 st r) (c : UInt8) : same2 (tfStep st c) (rfStep r (low c)) := by
  obtain ⟨out, g⟩ := st
  by_cases hc : c.toNat = 32
  · have hl : low c = 32 := by
      apply UInt8.toNat_inj.1
      rw [(low_gap c).2 hc]
      rfl
    rw [tfStep, if_pos hc, hl]
    rcases h with ⟨h1, h2, h3⟩ | ⟨h1, h2, h3, h4⟩
    · simp only at h1 h2 h3
      subst h1 h2
      rcases last_cases r with e | ⟨o, l, e⟩
      · subst e
        left
        simp [rfStep, keep]
      · subst e
        right
        have hl2 : l.toNat ≠ 32 := h3 l (by simp)
        have : keep (o ++ [l]) 32 = true := by
          simp [keep]
          omega
        refine ⟨by simp, by simp, by rw [rfStep, if_pos this], h3⟩
    · simp only at h1 h2 h3 h4
      subst h1 h3
      right
      refine ⟨by simp; exact List.length_pos_iff.2 h2, h2, ?_, h4⟩
      have : keep (out ++ [32]) 32 = false := by simp [keep]
      rw [rfStep, this]
      simp
  · have hl : (low c).toNat ≠ 32 := fun h => hc ((low_gap c).1 h)
    have hk : ∀ r, keep r (low c) = true := fun r => by
      simp only [keep, Bool.or_eq_true]
      left
      simp
      omega
    rw [tfStep, if_neg hc, rfStep, if_pos (hk r)]
    left
    refine ⟨rfl, ?_, fun l h => ?_⟩
    · rcases h with ⟨h1, h2, h3⟩ | ⟨h1, h2, h3, h4⟩
      · simp only at h1 h2
        subst h1 h2
        simp
      · simp only at h1 h3
        subst h1 h3
        simp
    · simp only [List.getLast?_concat, Option.some.injEq] at h
      subst h
      exact hl
theorem same2_fold : ∀ (xs : List UInt8) (st : List UInt8 × Bool) (r : List UInt8), same2 st r → same2 (xs.foldl tfStep st) ((xs.map low).foldl rfStep r)
  | [], _, _, h => h
  | c :: xs, st, r, h => by
    rw [List.map_cons, List.foldl_cons, List.foldl_cons]
    exact same2_fold xs _ _ (same2_step h c)
theorem fold_same (xs : List UInt8) : (tfold xs).1 = trim (rfold (xs.map low)) := by
  have h := same2_fold xs ([], false) [] (.inl ⟨rfl, rfl, by simp⟩)
  unfold tfold rfold
  generalize xs.foldl tfStep ([], false) = st at *
  generalize (xs.map low).foldl rfStep [] = r at *
  rcases h with ⟨h1, h2, h3⟩ | ⟨h1, h2, h3, h4⟩
  · subst h2
    unfold trim
    split
    · rename_i l hl
      have := h3 l hl
      rw [if_neg (by simp; omega)]
    · rfl
  · subst h3
    simp [trim]
end Go.Proofs.YtbdgmondalkhlaaDoor.Aw
