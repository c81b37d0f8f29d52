
/- Further data: decks, trees, rows of integers and of strings.
   Conditions: none. -/
import Derived.Test.YtbdgmondalkhlaaDoorWkStep
import Derived.Test.YtbdgmondalkhlaaDoorAwLast
namespace Go.Proofs.YtbdgmondalkhlaaDoor.Aw
open Go

def eI (x : Int) : List PL := [.v (.int .i64 x)]
def eW (x : Int) : List PL := [.v (.int .u32 x)]
def eBo (x : Bool) : List PL := [.v (.bool x)]
def eStrs (l : List ByteArray) : List PL := [.sl (l.map eStr)]
def eNSt (l : List Sub) : List PL := [.sl (l.map eSub)]
abbrev NSt := List Sub
/-- A deck of numbers, of which the first k are used. -/
structure Dk where
  L : List Int
  k : Nat
  h : k ≤ L.length
def eDk (d : Dk) : List PL := [.sl (d.L.map eI), .v (.int .i64 (d.k : Int))]
structure Tree where
  seed : ByteArray
  id : ByteArray
  levels : List (List ByteArray)
def eTree (t : Tree) : List PL := [.v (.string t.seed), .v (.string t.id), .sl (t.levels.map eStrs)]

theorem tmod_lt {x n : Int} (h : 0 < n) : -n < x.tmod n ∧ x.tmod n < n := by
  refine ⟨?_, Int.tmod_lt_of_pos x h⟩
  have := Int.tmod_lt_of_pos (-x) h
  rw [Int.neg_tmod] at this
  omega
theorem tmod_nn {x n : Int} (h : 0 < n) (hx : 0 ≤ x) : 0 ≤ x.tmod n ∧ x.tmod n < n := ⟨Int.tmod_nonneg _ hx, Int.tmod_lt_of_pos x h⟩
theorem outs_say {ps qs : List PL} (h : ps = qs) : [ps] = [qs] := by rw [h]
theorem ldm {α : Type} {f : α → List PL} {l : List α} {k : Nat} (h : k < l.length) : (l.map f)[k]? = some (f l[k]) := by simp [h]
theorem rowset {α : Type} {f : α → List PL} {l : List α} {t sz k : Nat} {y : α} : HB.row t sz true ((l.map f).set k (f y)) = HB.row t sz true ((l.set k y).map f) := by rw [List.map_set]
end Go.Proofs.YtbdgmondalkhlaaDoor.Aw
