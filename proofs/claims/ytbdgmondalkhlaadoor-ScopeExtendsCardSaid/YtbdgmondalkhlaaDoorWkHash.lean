
/- The walks of the reference's hash and of keys made with it: that they yield.
   Conditions: none. -/
import Derived.Test.YtbdgmondalkhlaaDoorWkMade2
namespace Go.Proofs.YtbdgmondalkhlaaDoor.Aw
open Go
set_option maxRecDepth 100000
set_option maxHeartbeats 4000000
set_option linter.unusedSimpArgs false
set_option linter.unusedVariables false

def okSs (l : List ByteArray) : Prop := l.length ≤ 1000 ∧ ∀ s ∈ l, s.size ≤ 1073741824
theorem ext_size (b : ByteArray) {i j : Nat} (h : i ≤ j) (hj : j ≤ b.size) : (b.extract i j).size = j - i := by rw [ByteArray.size_extract]; omega
theorem okSs_mk {l : List ByteArray} (h1 : l.length ≤ 1000) (h2 : ∀ s ∈ l, s.size ≤ 1073741824) : okSs l := ⟨h1, h2⟩
end Go.Proofs.YtbdgmondalkhlaaDoor.Aw
