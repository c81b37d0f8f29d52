
/- The walks of step's and the reference's small functions.
   Conditions: none. -/
import Derived.Test.YtbdgmondalkhlaaDoorWkData
namespace Go.Proofs.YtbdgmondalkhlaaDoor.Aw
open Go
set_option maxRecDepth 100000

def selfIssued (c : Cert) : Bool := nmatch c.issuer c.subject
def limitS (b : Bool) : Int := if b then 0 else 9
def leastS (n other : Int) : Int := if (other != -1) && decide (other < n) then other else n
def lessS' (n : Int) (fall : Bool) (x : Int) : Int := leastS (if fall && decide (n > 0) then IntKind.wrap .i64 (n - 1) else n) x
theorem sci {p q : Int} (h : p = q) : sc (.int .i64 p) = sc (.int .i64 q) := by rw [h]

def finalS (s : Progress) (c : Cert) : Int := if c.info.requireExplicit == 0 then 0 else lessS' s.explicit true (-1)
def specialS (s : Progress) (c : Cert) (last : Bool) : Bool := (s.any != 0) || (selfIssued c && !last)
def criticalS (c : Cert) : Int := if c.info.unknown.any (fun e => e.critical) then 12 else 0
def anyPol : ByteArray := ⟨#[50, 46, 53, 46, 50, 57, 46, 51, 50, 46, 48]⟩
def spMap (m : Mapp) : Bool := seq m.i anyPol || seq m.s anyPol
end Go.Proofs.YtbdgmondalkhlaaDoor.Aw
