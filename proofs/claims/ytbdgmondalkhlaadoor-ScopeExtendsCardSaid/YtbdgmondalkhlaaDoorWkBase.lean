
/- Data of the program, as lists of cells.
   Conditions: none. -/
import Derived.Test.YtbdgmondalkhlaaDoorAwT
import Derived.Test.YtbdgmondalkhlaaDoorAwGo
namespace Go.Proofs.YtbdgmondalkhlaaDoor.Aw
open Go

structure Attr where
  t : ByteArray
  k : Int
  v : ByteArray
abbrev Rdn := List Attr
abbrev Name := List Rdn
def eAttr (a : Attr) : List PL := [.v (.string a.t), .v (.int .i64 a.k), .v (.string a.v)]
def eRdn (r : Rdn) : List PL := [.sl (r.map eAttr)]
def eName (n : Name) : List PL := [.sl (n.map eRdn)]
/-- Strings that fit. -/
def okS (x : ByteArray) : Prop := x.size ≤ 1073741824
def okR (r : Rdn) : Prop := ∀ a ∈ r, okS a.v
def okN (n : Name) : Prop := ∀ r ∈ n, okR r
/-- Go's equality of strings, as the model tells it. -/
def seq (a b : ByteArray) : Bool := a.toList == b.toList
end Go.Proofs.YtbdgmondalkhlaaDoor.Aw
