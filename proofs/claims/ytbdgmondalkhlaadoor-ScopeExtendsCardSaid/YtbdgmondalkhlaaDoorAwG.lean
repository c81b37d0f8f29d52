/- The place of the one variable of the library that some walks read, in this seat.
   Conditions: none. -/
namespace Go.Proofs.YtbdgmondalkhlaaDoor.Aw
def gn : Nat := 0
def gb : Option Nat := some gn
end Go.Proofs.YtbdgmondalkhlaaDoor.Aw
