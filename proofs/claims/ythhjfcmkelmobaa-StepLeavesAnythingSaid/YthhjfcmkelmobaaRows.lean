/-
  No cell of these rows narrows 'for every input' (looked for: loops, veiled, ifaces, maps, wideKeys, modest, calm, conditions, laid).
  DERIVED. THE GIVEN ROWS OF THIS SEAT. 5 by the template 'for every input the law returns true; each argument reads behind the call as it read before'; 0 by the template 'total and deterministic' (their statements: YthhjfcmkelmobaaTotals.lean).
  GIVEN WITH THE SEED: the statements are not yours to turn. If you find one false, say at which input.
  Laid BY PROGRAM, IN A SANDBOX (cutbox-rows.mjs): the forced cells as the released guide's own fill.sh prints them over the translation f545a5d31d2b83bf… (all of the seat's roots in one cut). By AI agents, Wed Nov 11 2026. No macro, syntax, notation, axiom, sorry.
-/
import Derived.Test.YthhjfcmkelmobaaChecked
import GoSem.Claim
import GoSem.ClaimJoined
import GoSem.ClaimMapViews
import Derived.JoinedTies
import Derived.KernelRfl
namespace Go.Proofs.Ythhjfcmkelmobaa
/- THE CELL 'sum', in the pinned program and in every row, IS THE sha256 OF THE DUMP (.gsa) THAT YthhjfcmkelmobaaProg.lean LOADS. Nothing in Lean hashes anything: it is a label: what it is worth is what the hold of that sum in a sandbox is worth. -/
noncomputable def Try.pinned : Pinned := { name := "ythhjfcmkelmobaa", sum := "f545a5d31d2b83bfd7b7794c1f7a4658d94e9fb0f08e02bcf8b9cdd52548833f", checked := Try.checked }
namespace Rows
def none {H : Type} : Left H := { results := [], args := [] }

/-- 'certpathlaw30.StepBegins': WHATEVER THE INPUT: true; the input reads as it did. -/
def stepBeginsSpec : ChangeSpec := { name := "stepBegins", fn := fun _ => fun
  | [d1, d2] => { results := [.lit (.bool true)], args := [d1, d2] }
  | _ => none }
def stepBeginsRow : OpenClaim := { program := "ythhjfcmkelmobaa", sum := "f545a5d31d2b83bfd7b7794c1f7a4658d94e9fb0f08e02bcf8b9cdd52548833f", func := "certpath/certpathlaw30.StepBegins", spec := "stepBegins", unfollowed := true, recurses := true, apart := false }
def StepBeginsSaid : Prop := stepBeginsRow.holds Try.pinned (OpenSpec.ofChange stepBeginsSpec)

/-- ITS FALSE NEIGHBOUR: 'it returns false'. Refute it at one input. -/
def stepBeginsWrong : ChangeSpec := { name := "stepBegins", fn := fun _ => fun
  | [d1, d2] => { results := [.lit (.bool false)], args := [d1, d2] }
  | _ => none }
def StepBeginsWrongFalsely : Prop := stepBeginsRow.holds Try.pinned (OpenSpec.ofChange stepBeginsWrong)

/-- 'certpathlaw30.StepLeaves': WHATEVER THE INPUT: true; the input reads as it did. -/
def stepLeavesSpec : ChangeSpec := { name := "stepLeaves", fn := fun _ => fun
  | [d] => { results := [.lit (.bool true)], args := [d] }
  | _ => none }
def stepLeavesRow : OpenClaim := { program := "ythhjfcmkelmobaa", sum := "f545a5d31d2b83bfd7b7794c1f7a4658d94e9fb0f08e02bcf8b9cdd52548833f", func := "certpath/certpathlaw30.StepLeaves", spec := "stepLeaves", unfollowed := true, recurses := true, apart := false }
def StepLeavesSaid : Prop := stepLeavesRow.holds Try.pinned (OpenSpec.ofChange stepLeavesSpec)

/-- ITS FALSE NEIGHBOUR: 'it returns false'. Refute it at one input. -/
def stepLeavesWrong : ChangeSpec := { name := "stepLeaves", fn := fun _ => fun
  | [d] => { results := [.lit (.bool false)], args := [d] }
  | _ => none }
def StepLeavesWrongFalsely : Prop := stepLeavesRow.holds Try.pinned (OpenSpec.ofChange stepLeavesWrong)

/-- 'certpathlaw30.StepSelfIssued': WHATEVER THE INPUT: true; the input reads as it did. -/
def stepSelfIssuedSpec : ChangeSpec := { name := "stepSelfIssued", fn := fun _ => fun
  | [d1, d2] => { results := [.lit (.bool true)], args := [d1, d2] }
  | _ => none }
def stepSelfIssuedRow : OpenClaim := { program := "ythhjfcmkelmobaa", sum := "f545a5d31d2b83bfd7b7794c1f7a4658d94e9fb0f08e02bcf8b9cdd52548833f", func := "certpath/certpathlaw30.StepSelfIssued", spec := "stepSelfIssued", unfollowed := true, recurses := true, apart := false }
def StepSelfIssuedSaid : Prop := stepSelfIssuedRow.holds Try.pinned (OpenSpec.ofChange stepSelfIssuedSpec)

/-- ITS FALSE NEIGHBOUR: 'it returns false'. Refute it at one input. -/
def stepSelfIssuedWrong : ChangeSpec := { name := "stepSelfIssued", fn := fun _ => fun
  | [d1, d2] => { results := [.lit (.bool false)], args := [d1, d2] }
  | _ => none }
def StepSelfIssuedWrongFalsely : Prop := stepSelfIssuedRow.holds Try.pinned (OpenSpec.ofChange stepSelfIssuedWrong)

/-- 'certpathlaw30.StepUnlimited': WHATEVER THE INPUT: true; the input reads as it did. -/
def stepUnlimitedSpec : ChangeSpec := { name := "stepUnlimited", fn := fun _ => fun
  | [d1, d2] => { results := [.lit (.bool true)], args := [d1, d2] }
  | _ => none }
def stepUnlimitedRow : OpenClaim := { program := "ythhjfcmkelmobaa", sum := "f545a5d31d2b83bfd7b7794c1f7a4658d94e9fb0f08e02bcf8b9cdd52548833f", func := "certpath/certpathlaw30.StepUnlimited", spec := "stepUnlimited", unfollowed := true, recurses := true, apart := false }
def StepUnlimitedSaid : Prop := stepUnlimitedRow.holds Try.pinned (OpenSpec.ofChange stepUnlimitedSpec)

/-- ITS FALSE NEIGHBOUR: 'it returns false'. Refute it at one input. -/
def stepUnlimitedWrong : ChangeSpec := { name := "stepUnlimited", fn := fun _ => fun
  | [d1, d2] => { results := [.lit (.bool false)], args := [d1, d2] }
  | _ => none }
def StepUnlimitedWrongFalsely : Prop := stepUnlimitedRow.holds Try.pinned (OpenSpec.ofChange stepUnlimitedWrong)

/-- 'certpathlaw30.StepLeavesAnything': WHATEVER THE INPUT: true; the input reads as it did. -/
def stepLeavesAnythingSpec : ChangeSpec := { name := "stepLeavesAnything", fn := fun _ => fun
  | [d1, d2, d3] => { results := [.lit (.bool true)], args := [d1, d2, d3] }
  | _ => none }
def stepLeavesAnythingRow : OpenClaim := { program := "ythhjfcmkelmobaa", sum := "f545a5d31d2b83bfd7b7794c1f7a4658d94e9fb0f08e02bcf8b9cdd52548833f", func := "certpath/certpathlaw30.StepLeavesAnything", spec := "stepLeavesAnything", unfollowed := true, recurses := true, apart := false }
def StepLeavesAnythingSaid : Prop := stepLeavesAnythingRow.holds Try.pinned (OpenSpec.ofChange stepLeavesAnythingSpec)

/-- ITS FALSE NEIGHBOUR: 'it returns false'. Refute it at one input. -/
def stepLeavesAnythingWrong : ChangeSpec := { name := "stepLeavesAnything", fn := fun _ => fun
  | [d1, d2, d3] => { results := [.lit (.bool false)], args := [d1, d2, d3] }
  | _ => none }
def StepLeavesAnythingWrongFalsely : Prop := stepLeavesAnythingRow.holds Try.pinned (OpenSpec.ofChange stepLeavesAnythingWrong)

/- THE SECOND FORM. 'bulk': how many values and letters a reading holds, each counted each time it is reached (what is shared counts as often as it is met; a slice's spare places count too). A statement '..UptoSaid' is the law's where the arguments, and the package variables that the reading takes, are together of bulk at most 1048576: NARROWER than '..Said'. Prove '..Said' where nothing that the law and all that it calls make is longer than what came in: it says more and counts as full. Else prove '..UptoSaid'. A law counts once. -/
mutual
def uptoBulk {H : Type} : DataW H → Nat
  | .lit (.string bytes) => bytes.length + 1
  | .lit _ => 1
  | .nil => 1
  | .ptr d => uptoBulk d + 1
  | .slice elems spare => uptoBulkAll elems + uptoBulkAll spare + 1
  | .agg parts => uptoBulkAll parts + 1
  | .iface _ d => uptoBulk d + 1
  | .map entries => uptoBulkEntries entries + 1
  | .held _ => 1
def uptoBulkAll {H : Type} : List (DataW H) → Nat
  | [] => 0
  | d :: r => uptoBulk d + uptoBulkAll r
def uptoBulkEntries {H : Type} : List (Lit × DataW H) → Nat
  | [] => 0
  | x :: r => uptoBulkEntry x + uptoBulkEntries r
def uptoBulkEntry {H : Type} : Lit × DataW H → Nat
  | (.string bytes, d) => bytes.length + uptoBulk d + 1
  | (_, d) => uptoBulk d + 1
 end
def uptoSmall : (H : Type) → List (DataW H) → Bool := fun _ ds => decide (uptoBulkAll ds ≤ 1048576)
def OpenSpec.upto (s : _root_.Go.ChangeSpec) : _root_.Go.OpenSpec := { _root_.Go.OpenSpec.ofChange s with cond := some uptoSmall }

/-- 'certpathlaw30.StepBegins', WHERE WHAT IT READS IS OF BULK AT MOST 1048576: true; the input reads as it did. -/
def stepBeginsUptoRow : OpenClaim := { program := "ythhjfcmkelmobaa", sum := "f545a5d31d2b83bfd7b7794c1f7a4658d94e9fb0f08e02bcf8b9cdd52548833f", func := "certpath/certpathlaw30.StepBegins", spec := "stepBegins", unfollowed := true, recurses := true, apart := false, narrowed := true }
def StepBeginsUptoSaid : Prop := stepBeginsUptoRow.holds Try.pinned (OpenSpec.upto stepBeginsSpec)

/-- 'certpathlaw30.StepLeaves', WHERE WHAT IT READS IS OF BULK AT MOST 1048576: true; the input reads as it did. -/
def stepLeavesUptoRow : OpenClaim := { program := "ythhjfcmkelmobaa", sum := "f545a5d31d2b83bfd7b7794c1f7a4658d94e9fb0f08e02bcf8b9cdd52548833f", func := "certpath/certpathlaw30.StepLeaves", spec := "stepLeaves", unfollowed := true, recurses := true, apart := false, narrowed := true }
def StepLeavesUptoSaid : Prop := stepLeavesUptoRow.holds Try.pinned (OpenSpec.upto stepLeavesSpec)

/-- 'certpathlaw30.StepSelfIssued', WHERE WHAT IT READS IS OF BULK AT MOST 1048576: true; the input reads as it did. -/
def stepSelfIssuedUptoRow : OpenClaim := { program := "ythhjfcmkelmobaa", sum := "f545a5d31d2b83bfd7b7794c1f7a4658d94e9fb0f08e02bcf8b9cdd52548833f", func := "certpath/certpathlaw30.StepSelfIssued", spec := "stepSelfIssued", unfollowed := true, recurses := true, apart := false, narrowed := true }
def StepSelfIssuedUptoSaid : Prop := stepSelfIssuedUptoRow.holds Try.pinned (OpenSpec.upto stepSelfIssuedSpec)

/-- 'certpathlaw30.StepUnlimited', WHERE WHAT IT READS IS OF BULK AT MOST 1048576: true; the input reads as it did. -/
def stepUnlimitedUptoRow : OpenClaim := { program := "ythhjfcmkelmobaa", sum := "f545a5d31d2b83bfd7b7794c1f7a4658d94e9fb0f08e02bcf8b9cdd52548833f", func := "certpath/certpathlaw30.StepUnlimited", spec := "stepUnlimited", unfollowed := true, recurses := true, apart := false, narrowed := true }
def StepUnlimitedUptoSaid : Prop := stepUnlimitedUptoRow.holds Try.pinned (OpenSpec.upto stepUnlimitedSpec)

/-- 'certpathlaw30.StepLeavesAnything', WHERE WHAT IT READS IS OF BULK AT MOST 1048576: true; the input reads as it did. -/
def stepLeavesAnythingUptoRow : OpenClaim := { program := "ythhjfcmkelmobaa", sum := "f545a5d31d2b83bfd7b7794c1f7a4658d94e9fb0f08e02bcf8b9cdd52548833f", func := "certpath/certpathlaw30.StepLeavesAnything", spec := "stepLeavesAnything", unfollowed := true, recurses := true, apart := false, narrowed := true }
def StepLeavesAnythingUptoSaid : Prop := stepLeavesAnythingUptoRow.holds Try.pinned (OpenSpec.upto stepLeavesAnythingSpec)

end Rows
end Go.Proofs.Ythhjfcmkelmobaa
