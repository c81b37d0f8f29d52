
/- The walks of Begin, Signers, the exact comparisons.
   Conditions: none. -/
import Derived.Test.YtbdgmondalkhlaaDoorWkCopy
namespace Go.Proofs.YtbdgmondalkhlaaDoor.Aw
open Go
set_option maxRecDepth 100000
set_option maxHeartbeats 4000000
set_option linter.unusedSimpArgs false
set_option linter.unusedVariables false

/-- What Begin answers. -/
def beginS (a : Anchor) (q : Query) : Progress := ⟨a.name, a.key, true, 8, limitS q.explicit, limitS q.noMapping, limitS q.noAny, []⟩
theorem aeq_self (a : Attr) : aeq a a = true := by simp [aeq, seq]
theorem keq_self (a : Key) : keq a a = true := by simp [keq, seq]
/-- The keys that may sign the next step. -/
def signersS (s : Progress) (q : Query) : List Anchor := (if s.lists then [⟨s.issuer, s.key⟩] else []) ++ q.issuers
end Go.Proofs.YtbdgmondalkhlaaDoor.Aw
