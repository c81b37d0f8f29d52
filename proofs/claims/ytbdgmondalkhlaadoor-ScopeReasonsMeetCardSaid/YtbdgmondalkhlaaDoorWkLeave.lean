
/- The walks of Leave.
   Conditions: none. -/
import Derived.Test.YtbdgmondalkhlaaDoorWkRun
import Derived.Test.YtbdgmondalkhlaaDoorAwPtr
namespace Go.Proofs.YtbdgmondalkhlaaDoor.Aw
open Go
set_option maxRecDepth 100000
set_option maxHeartbeats 4000000
set_option linter.unusedSimpArgs false
set_option linter.unusedVariables false

def zeroP : Progress := ⟨[], ⟨0, ⟨#[]⟩, ⟨#[]⟩⟩, false, 0, 0, 0, 0, []⟩
def fallS (c : Cert) : Bool := !selfIssued c
def listsS (c : Cert) : Bool := (c.info.usage == 0) || (band c.info.usage 64 != 0)
def lenS (s : Progress) (c : Cert) : Int := if fallS c then IntKind.wrap .i64 (s.length - 1) else s.length
def consS (s : Progress) (c : Cert) : List Sub := if c.info.hasConstraints then s.cons ++ [c.info.constraints] else s.cons
/-- The state behind a certificate. -/
def leaveP (s : Progress) (c : Cert) : Progress := ⟨c.subject, c.key, listsS c, leastS (lenS s c) c.info.pathLen,
  lessS' s.explicit (fallS c) c.info.requireExplicit, lessS' s.mapping (fallS c) c.info.inhibitMapping, lessS' s.any (fallS c) c.info.inhibitAny, consS s c⟩
def leaveC (s : Progress) (c : Cert) : Int := if c.info.mappings.any spMap then 8 else if !c.info.ca then 9 else if fallS c && decide (s.length < 1) then 10 else if c.info.usage != 0 && (band c.info.usage 32 == 0) then 11 else 0
theorem lvx {s : Progress} {c : Cert} {n : Int} {p : Progress} (hc : leaveC s c = n) (hp : (if n == 0 then leaveP s c else zeroP) = p) : AV.tup [.agg (ePr p), .one (.p (.v (.int .i64 n)))] = AV.tup [.agg (ePr (if leaveC s c == 0 then leaveP s c else zeroP)), .one (.p (.v (.int .i64 (leaveC s c))))] := by
  subst hp
  rw [hc]
def dec1 (x : Int) : Int := if x > 0 then IntKind.wrap .i64 (x - 1) else x
def decI (j k : Nat) (x : Int) : Int := if k < j then dec1 x else x
def fallD (c : Cert) (x : Int) : Int := if fallS c && decide (x > 0) then IntKind.wrap .i64 (x - 1) else x
theorem decI0 {k : Nat} {x : Int} : decI 0 k x = x := by simp [decI]
theorem decI_p {j k : Nat} {x : Int} (h : decide (decI j k x > 0) = true) (hk : ¬ k < j) : IntKind.wrap .i64 (decI j k x - 1) = dec1 x := by
  rw [decI, if_neg hk] at h ⊢
  rw [dec1, if_pos (of_decide_eq_true h)]
theorem decI_n {j k : Nat} {x : Int} (h : decide (decI j k x > 0) = false) (hk : ¬ k < j) : decI j k x = dec1 x := by
  rw [decI, if_neg hk] at h ⊢
  rw [dec1, if_neg (of_decide_eq_false h)]
theorem fallD_t {c : Cert} {x : Int} (h : fallS c = true) : dec1 x = fallD c x := by simp [fallD, h, dec1]
theorem fallD_f {c : Cert} {x : Int} (h : fallS c = false) : x = fallD c x := by simp [fallD, h]
theorem fall_f {c : Cert} (h : (!selfIssued c) = false) : fallS c = false := h
end Go.Proofs.YtbdgmondalkhlaaDoor.Aw
