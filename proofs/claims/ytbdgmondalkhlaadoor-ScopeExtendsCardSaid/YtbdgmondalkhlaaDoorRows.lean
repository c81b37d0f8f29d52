/-
  NARROWER THAN 'FOR EVERY INPUT', by the rows' own cells (each row's printed sentence says how): ScopeCovers: laid · ScopeMasks: laid · ScopePlain: laid · ScopeReasonsMeet: laid · ScopeExtends: laid.
  DERIVED. THE GIVEN ROWS OF THIS SEAT. 5 by the template 'for every input the law returns true; each argument reads behind the call as it read before'; 0 by the template 'total and deterministic' (their statements: YtbdgmondalkhlaaDoorTotals.lean).
  GIVEN WITH THE SEED: the statements are not yours to turn. If you find one false, say at which input.
  Laid BY PROGRAM, IN A SANDBOX (cutbox-rows.mjs): the forced cells as the released guide's own fill.sh prints them over the translation 077b516ea8f190df… (all of the seat's roots in one cut). By AI agents, Wed Nov 11 2026. No macro, syntax, notation, axiom, sorry.
-/
import Derived.Test.YtbdgmondalkhlaaDoorChecked
import GoSem.PinnedTables
import GoSem.Claim
import GoSem.ClaimJoined
import GoSem.ClaimMapViews
import Derived.JoinedTies
import Derived.KernelRfl
namespace Go.Proofs.YtbdgmondalkhlaaDoor
/- THE CELL 'sum', in the pinned program and in every row, IS THE sha256 OF THE DUMP (.gsa) THAT YtbdgmondalkhlaaDoorProg.lean LOADS. Nothing in Lean hashes anything: it is a label: what it is worth is what the hold of that sum in a sandbox is worth. -/
noncomputable def Tryd.pinned : Pinned := { name := "ytbdgmondalkhlaadoor", sum := "077b516ea8f190dffa5616e2864ab5817f3858054b4724dc888c625a332271e0", checked := Tryd.checked }
namespace Rows
def none {H : Type} : Left H := { results := [], args := [] }

/- WHAT THE LISTED PACKAGE-LEVEL VARIABLES READ AS WHEN THE CALL BEGINS. Each datum BY PROGRAM (the guide's laid-datum.mjs) off the statement by which the dump's own 'gosem.cut.vars' lays the variable. In a bare row this is a premise. The card (YtbdgmondalkhlaaDoorCards.lean) ties it to the program's text. -/
def laid_unicode_utf8_acceptRanges {H : Type} : DataW H := .agg [.agg [.lit (.int .u8 128), .lit (.int .u8 191)], .agg [.lit (.int .u8 160), .lit (.int .u8 191)], .agg [.lit (.int .u8 128), .lit (.int .u8 159)], .agg [.lit (.int .u8 144), .lit (.int .u8 191)], .agg [.lit (.int .u8 128), .lit (.int .u8 143)], .agg [.lit (.int .u8 0), .lit (.int .u8 0)], .agg [.lit (.int .u8 0), .lit (.int .u8 0)], .agg [.lit (.int .u8 0), .lit (.int .u8 0)], .agg [.lit (.int .u8 0), .lit (.int .u8 0)], .agg [.lit (.int .u8 0), .lit (.int .u8 0)], .agg [.lit (.int .u8 0), .lit (.int .u8 0)], .agg [.lit (.int .u8 0), .lit (.int .u8 0)], .agg [.lit (.int .u8 0), .lit (.int .u8 0)], .agg [.lit (.int .u8 0), .lit (.int .u8 0)], .agg [.lit (.int .u8 0), .lit (.int .u8 0)], .agg [.lit (.int .u8 0), .lit (.int .u8 0)]]
/-- One of Go's own tables, pinned by name: the form's constant. -/
def laid_unicode_utf8_first : DataW Unit := Go.Pinned.utf8First

/-- 'certpathlaw27.ScopeCovers': WHATEVER THE INPUT: true; the input reads as it did. -/
def scopeCoversSpec : ChangeSpec := { name := "scopeCovers", fn := fun _ => fun
  | [d] => { results := [.lit (.bool true)], args := [d] }
  | _ => none }
def scopeCoversRow : OpenClaim := { program := "ytbdgmondalkhlaadoor", sum := "077b516ea8f190dffa5616e2864ab5817f3858054b4724dc888c625a332271e0", func := "certpath/certpathlaw27.ScopeCovers", spec := "scopeCovers", inPlace := ["internal/bytealg.IndexByteString", "internal/bytealg.IndexString", "internal/bytealg.CountString"], unfollowed := true, recurses := true, named := ["internal/bytealg.MaxLen", "unicode/utf8.first", "unicode/utf8.acceptRanges"], apart := false, laid := [("unicode/utf8.acceptRanges", laid_unicode_utf8_acceptRanges), ("unicode/utf8.first", laid_unicode_utf8_first)] }
def ScopeCoversSaid : Prop := scopeCoversRow.holds Tryd.pinned (OpenSpec.ofChange scopeCoversSpec)

/-- ITS FALSE NEIGHBOUR: 'it returns false'. Refute it at one input. -/
def scopeCoversWrong : ChangeSpec := { name := "scopeCovers", fn := fun _ => fun
  | [d] => { results := [.lit (.bool false)], args := [d] }
  | _ => none }
def ScopeCoversWrongFalsely : Prop := scopeCoversRow.holds Tryd.pinned (OpenSpec.ofChange scopeCoversWrong)

/-- 'certpathlaw27.ScopeMasks': WHATEVER THE INPUT: true; the input reads as it did. -/
def scopeMasksSpec : ChangeSpec := { name := "scopeMasks", fn := fun _ => fun
  | [d] => { results := [.lit (.bool true)], args := [d] }
  | _ => none }
def scopeMasksRow : OpenClaim := { program := "ytbdgmondalkhlaadoor", sum := "077b516ea8f190dffa5616e2864ab5817f3858054b4724dc888c625a332271e0", func := "certpath/certpathlaw27.ScopeMasks", spec := "scopeMasks", inPlace := ["internal/bytealg.IndexByteString", "internal/bytealg.IndexString", "internal/bytealg.CountString"], unfollowed := true, recurses := true, named := ["internal/bytealg.MaxLen", "unicode/utf8.first", "unicode/utf8.acceptRanges"], apart := false, laid := [("unicode/utf8.acceptRanges", laid_unicode_utf8_acceptRanges), ("unicode/utf8.first", laid_unicode_utf8_first)] }
def ScopeMasksSaid : Prop := scopeMasksRow.holds Tryd.pinned (OpenSpec.ofChange scopeMasksSpec)

/-- ITS FALSE NEIGHBOUR: 'it returns false'. Refute it at one input. -/
def scopeMasksWrong : ChangeSpec := { name := "scopeMasks", fn := fun _ => fun
  | [d] => { results := [.lit (.bool false)], args := [d] }
  | _ => none }
def ScopeMasksWrongFalsely : Prop := scopeMasksRow.holds Tryd.pinned (OpenSpec.ofChange scopeMasksWrong)

/-- 'certpathlaw27.ScopePlain': WHATEVER THE INPUT: true; the input reads as it did. -/
def scopePlainSpec : ChangeSpec := { name := "scopePlain", fn := fun _ => fun
  | [d1, d2] => { results := [.lit (.bool true)], args := [d1, d2] }
  | _ => none }
def scopePlainRow : OpenClaim := { program := "ytbdgmondalkhlaadoor", sum := "077b516ea8f190dffa5616e2864ab5817f3858054b4724dc888c625a332271e0", func := "certpath/certpathlaw27.ScopePlain", spec := "scopePlain", inPlace := ["internal/bytealg.IndexByteString", "internal/bytealg.IndexString", "internal/bytealg.CountString"], unfollowed := true, recurses := true, named := ["internal/bytealg.MaxLen", "unicode/utf8.first", "unicode/utf8.acceptRanges"], apart := false, laid := [("unicode/utf8.acceptRanges", laid_unicode_utf8_acceptRanges), ("unicode/utf8.first", laid_unicode_utf8_first)] }
def ScopePlainSaid : Prop := scopePlainRow.holds Tryd.pinned (OpenSpec.ofChange scopePlainSpec)

/-- ITS FALSE NEIGHBOUR: 'it returns false'. Refute it at one input. -/
def scopePlainWrong : ChangeSpec := { name := "scopePlain", fn := fun _ => fun
  | [d1, d2] => { results := [.lit (.bool false)], args := [d1, d2] }
  | _ => none }
def ScopePlainWrongFalsely : Prop := scopePlainRow.holds Tryd.pinned (OpenSpec.ofChange scopePlainWrong)

/-- 'certpathlaw27.ScopeReasonsMeet': WHATEVER THE INPUT: true; the input reads as it did. -/
def scopeReasonsMeetSpec : ChangeSpec := { name := "scopeReasonsMeet", fn := fun _ => fun
  | [d] => { results := [.lit (.bool true)], args := [d] }
  | _ => none }
def scopeReasonsMeetRow : OpenClaim := { program := "ytbdgmondalkhlaadoor", sum := "077b516ea8f190dffa5616e2864ab5817f3858054b4724dc888c625a332271e0", func := "certpath/certpathlaw27.ScopeReasonsMeet", spec := "scopeReasonsMeet", inPlace := ["internal/bytealg.IndexByteString", "internal/bytealg.IndexString", "internal/bytealg.CountString"], unfollowed := true, recurses := true, named := ["internal/bytealg.MaxLen", "unicode/utf8.first", "unicode/utf8.acceptRanges"], apart := false, laid := [("unicode/utf8.acceptRanges", laid_unicode_utf8_acceptRanges), ("unicode/utf8.first", laid_unicode_utf8_first)] }
def ScopeReasonsMeetSaid : Prop := scopeReasonsMeetRow.holds Tryd.pinned (OpenSpec.ofChange scopeReasonsMeetSpec)

/-- ITS FALSE NEIGHBOUR: 'it returns false'. Refute it at one input. -/
def scopeReasonsMeetWrong : ChangeSpec := { name := "scopeReasonsMeet", fn := fun _ => fun
  | [d] => { results := [.lit (.bool false)], args := [d] }
  | _ => none }
def ScopeReasonsMeetWrongFalsely : Prop := scopeReasonsMeetRow.holds Tryd.pinned (OpenSpec.ofChange scopeReasonsMeetWrong)

/-- 'certpathlaw27.ScopeExtends': WHATEVER THE INPUT: true; the input reads as it did. -/
def scopeExtendsSpec : ChangeSpec := { name := "scopeExtends", fn := fun _ => fun
  | [d1, d2] => { results := [.lit (.bool true)], args := [d1, d2] }
  | _ => none }
def scopeExtendsRow : OpenClaim := { program := "ytbdgmondalkhlaadoor", sum := "077b516ea8f190dffa5616e2864ab5817f3858054b4724dc888c625a332271e0", func := "certpath/certpathlaw27.ScopeExtends", spec := "scopeExtends", inPlace := ["internal/bytealg.IndexByteString", "internal/bytealg.IndexString", "internal/bytealg.CountString"], unfollowed := true, recurses := true, named := ["internal/bytealg.MaxLen", "unicode/utf8.first", "unicode/utf8.acceptRanges"], apart := false, laid := [("unicode/utf8.acceptRanges", laid_unicode_utf8_acceptRanges), ("unicode/utf8.first", laid_unicode_utf8_first)] }
def ScopeExtendsSaid : Prop := scopeExtendsRow.holds Tryd.pinned (OpenSpec.ofChange scopeExtendsSpec)

/-- ITS FALSE NEIGHBOUR: 'it returns false'. Refute it at one input. -/
def scopeExtendsWrong : ChangeSpec := { name := "scopeExtends", fn := fun _ => fun
  | [d1, d2] => { results := [.lit (.bool false)], args := [d1, d2] }
  | _ => none }
def ScopeExtendsWrongFalsely : Prop := scopeExtendsRow.holds Tryd.pinned (OpenSpec.ofChange scopeExtendsWrong)

/- THE SECOND FORM. 'bulk': how many values and letters a reading holds, each counted each time it is reached (what is shared counts as often as it is met; a slice's spare places count too). A statement '..UptoSaid' is the law's where the arguments, and the package variables that the reading takes, are together of bulk at most 1048576: NARROWER than '..Said'. Prove '..Said' where nothing that the law and all that it calls make is longer than what came in: it says more and counts as full. Else prove '..UptoSaid'. A law counts once. -/
mutual
def uptoBulk {H : Type} : DataW H → Nat
  | .lit (.string bytes) => bytes.length + 1
  | .lit _ => 1
  | .nil => 1
  | .ptr d => uptoBulk d + 1
  | .slice elems spare => uptoBulkAll elems + uptoBulkAll spare + 1
  | .agg parts => uptoBulkAll parts + 1
  | .iface _ d => uptoBulk d + 1
  | .map entries => uptoBulkEntries entries + 1
  | .held _ => 1
def uptoBulkAll {H : Type} : List (DataW H) → Nat
  | [] => 0
  | d :: r => uptoBulk d + uptoBulkAll r
def uptoBulkEntries {H : Type} : List (Lit × DataW H) → Nat
  | [] => 0
  | x :: r => uptoBulkEntry x + uptoBulkEntries r
def uptoBulkEntry {H : Type} : Lit × DataW H → Nat
  | (.string bytes, d) => bytes.length + uptoBulk d + 1
  | (_, d) => uptoBulk d + 1
 end
def uptoSmall : (H : Type) → List (DataW H) → Bool := fun _ ds => decide (uptoBulkAll ds ≤ 1048576)
def OpenSpec.upto (s : _root_.Go.ChangeSpec) : _root_.Go.OpenSpec := { _root_.Go.OpenSpec.ofChange s with cond := some uptoSmall }

/-- 'certpathlaw27.ScopeCovers', WHERE WHAT IT READS IS OF BULK AT MOST 1048576: true; the input reads as it did. -/
def scopeCoversUptoRow : OpenClaim := { program := "ytbdgmondalkhlaadoor", sum := "077b516ea8f190dffa5616e2864ab5817f3858054b4724dc888c625a332271e0", func := "certpath/certpathlaw27.ScopeCovers", spec := "scopeCovers", inPlace := ["internal/bytealg.IndexByteString", "internal/bytealg.IndexString", "internal/bytealg.CountString"], unfollowed := true, recurses := true, named := ["internal/bytealg.MaxLen", "unicode/utf8.first", "unicode/utf8.acceptRanges"], apart := false, laid := [("unicode/utf8.acceptRanges", laid_unicode_utf8_acceptRanges), ("unicode/utf8.first", laid_unicode_utf8_first)], narrowed := true }
def ScopeCoversUptoSaid : Prop := scopeCoversUptoRow.holds Tryd.pinned (OpenSpec.upto scopeCoversSpec)

/-- 'certpathlaw27.ScopeMasks', WHERE WHAT IT READS IS OF BULK AT MOST 1048576: true; the input reads as it did. -/
def scopeMasksUptoRow : OpenClaim := { program := "ytbdgmondalkhlaadoor", sum := "077b516ea8f190dffa5616e2864ab5817f3858054b4724dc888c625a332271e0", func := "certpath/certpathlaw27.ScopeMasks", spec := "scopeMasks", inPlace := ["internal/bytealg.IndexByteString", "internal/bytealg.IndexString", "internal/bytealg.CountString"], unfollowed := true, recurses := true, named := ["internal/bytealg.MaxLen", "unicode/utf8.first", "unicode/utf8.acceptRanges"], apart := false, laid := [("unicode/utf8.acceptRanges", laid_unicode_utf8_acceptRanges), ("unicode/utf8.first", laid_unicode_utf8_first)], narrowed := true }
def ScopeMasksUptoSaid : Prop := scopeMasksUptoRow.holds Tryd.pinned (OpenSpec.upto scopeMasksSpec)

/-- 'certpathlaw27.ScopePlain', WHERE WHAT IT READS IS OF BULK AT MOST 1048576: true; the input reads as it did. -/
def scopePlainUptoRow : OpenClaim := { program := "ytbdgmondalkhlaadoor", sum := "077b516ea8f190dffa5616e2864ab5817f3858054b4724dc888c625a332271e0", func := "certpath/certpathlaw27.ScopePlain", spec := "scopePlain", inPlace := ["internal/bytealg.IndexByteString", "internal/bytealg.IndexString", "internal/bytealg.CountString"], unfollowed := true, recurses := true, named := ["internal/bytealg.MaxLen", "unicode/utf8.first", "unicode/utf8.acceptRanges"], apart := false, laid := [("unicode/utf8.acceptRanges", laid_unicode_utf8_acceptRanges), ("unicode/utf8.first", laid_unicode_utf8_first)], narrowed := true }
def ScopePlainUptoSaid : Prop := scopePlainUptoRow.holds Tryd.pinned (OpenSpec.upto scopePlainSpec)

/-- 'certpathlaw27.ScopeReasonsMeet', WHERE WHAT IT READS IS OF BULK AT MOST 1048576: true; the input reads as it did. -/
def scopeReasonsMeetUptoRow : OpenClaim := { program := "ytbdgmondalkhlaadoor", sum := "077b516ea8f190dffa5616e2864ab5817f3858054b4724dc888c625a332271e0", func := "certpath/certpathlaw27.ScopeReasonsMeet", spec := "scopeReasonsMeet", inPlace := ["internal/bytealg.IndexByteString", "internal/bytealg.IndexString", "internal/bytealg.CountString"], unfollowed := true, recurses := true, named := ["internal/bytealg.MaxLen", "unicode/utf8.first", "unicode/utf8.acceptRanges"], apart := false, laid := [("unicode/utf8.acceptRanges", laid_unicode_utf8_acceptRanges), ("unicode/utf8.first", laid_unicode_utf8_first)], narrowed := true }
def ScopeReasonsMeetUptoSaid : Prop := scopeReasonsMeetUptoRow.holds Tryd.pinned (OpenSpec.upto scopeReasonsMeetSpec)

/-- 'certpathlaw27.ScopeExtends', WHERE WHAT IT READS IS OF BULK AT MOST 1048576: true; the input reads as it did. -/
def scopeExtendsUptoRow : OpenClaim := { program := "ytbdgmondalkhlaadoor", sum := "077b516ea8f190dffa5616e2864ab5817f3858054b4724dc888c625a332271e0", func := "certpath/certpathlaw27.ScopeExtends", spec := "scopeExtends", inPlace := ["internal/bytealg.IndexByteString", "internal/bytealg.IndexString", "internal/bytealg.CountString"], unfollowed := true, recurses := true, named := ["internal/bytealg.MaxLen", "unicode/utf8.first", "unicode/utf8.acceptRanges"], apart := false, laid := [("unicode/utf8.acceptRanges", laid_unicode_utf8_acceptRanges), ("unicode/utf8.first", laid_unicode_utf8_first)], narrowed := true }
def ScopeExtendsUptoSaid : Prop := scopeExtendsUptoRow.holds Tryd.pinned (OpenSpec.upto scopeExtendsSpec)

end Rows
end Go.Proofs.YtbdgmondalkhlaaDoor
