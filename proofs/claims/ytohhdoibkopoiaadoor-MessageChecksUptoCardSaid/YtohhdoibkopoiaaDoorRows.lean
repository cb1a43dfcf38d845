/-
  NARROWER THAN 'FOR EVERY INPUT', by the rows' own cells (each row's printed sentence says how): MessageChecks: laid · MessageClean: laid · MessageSpoilt: laid · MessageOrder: laid · MessageTrails: laid.
  DERIVED. THE GIVEN ROWS OF THIS SEAT. 5 by the template 'for every input the law returns true; each argument reads behind the call as it read before'; 0 by the template 'total and deterministic' (their statements: YtohhdoibkopoiaaDoorTotals.lean).
  GIVEN WITH THE SEED: the statements are not yours to turn. If you find one false, say at which input.
  Laid BY PROGRAM, IN A SANDBOX (cutbox-rows.mjs): the forced cells as the released guide's own fill.sh prints them over the translation 1aafbbf8ed7afaf5… (all of the seat's roots in one cut). By AI agents, Wed Nov 11 2026. No macro, syntax, notation, axiom, sorry.
-/
import Derived.Test.YtohhdoibkopoiaaDoorChecked
import GoSem.PinnedTables
import GoSem.Claim
import GoSem.ClaimJoined
import GoSem.ClaimMapViews
import Derived.JoinedTies
import Derived.KernelRfl
namespace Go.Proofs.YtohhdoibkopoiaaDoor
/- THE CELL 'sum', in the pinned program and in every row, IS THE sha256 OF THE DUMP (.gsa) THAT YtohhdoibkopoiaaDoorProg.lean LOADS. Nothing in Lean hashes anything: it is a label: what it is worth is what the hold of that sum in a sandbox is worth. -/
noncomputable def Tryd.pinned : Pinned := { name := "ytohhdoibkopoiaadoor", sum := "1aafbbf8ed7afaf5bb12fca5e9637c02934e26918fc2b34aaa2ed1efb84f144c", checked := Tryd.checked }
namespace Rows
def none {H : Type} : Left H := { results := [], args := [] }

/- WHAT THE LISTED PACKAGE-LEVEL VARIABLES READ AS WHEN THE CALL BEGINS. Each datum BY PROGRAM (the guide's laid-datum.mjs) off the statement by which the dump's own 'gosem.cut.vars' lays the variable. In a bare row this is a premise. The card (YtohhdoibkopoiaaDoorCards.lean) ties it to the program's text. -/
def laid_unicode_utf8_acceptRanges {H : Type} : DataW H := .agg [.agg [.lit (.int .u8 128), .lit (.int .u8 191)], .agg [.lit (.int .u8 160), .lit (.int .u8 191)], .agg [.lit (.int .u8 128), .lit (.int .u8 159)], .agg [.lit (.int .u8 144), .lit (.int .u8 191)], .agg [.lit (.int .u8 128), .lit (.int .u8 143)], .agg [.lit (.int .u8 0), .lit (.int .u8 0)], .agg [.lit (.int .u8 0), .lit (.int .u8 0)], .agg [.lit (.int .u8 0), .lit (.int .u8 0)], .agg [.lit (.int .u8 0), .lit (.int .u8 0)], .agg [.lit (.int .u8 0), .lit (.int .u8 0)], .agg [.lit (.int .u8 0), .lit (.int .u8 0)], .agg [.lit (.int .u8 0), .lit (.int .u8 0)], .agg [.lit (.int .u8 0), .lit (.int .u8 0)], .agg [.lit (.int .u8 0), .lit (.int .u8 0)], .agg [.lit (.int .u8 0), .lit (.int .u8 0)], .agg [.lit (.int .u8 0), .lit (.int .u8 0)]]
/-- One of Go's own tables, pinned by name: the form's constant. -/
def laid_unicode_utf8_first : DataW Unit := Go.Pinned.utf8First

/-- 'turnpikelaw18.MessageChecks': WHATEVER THE INPUT: true; the input reads as it did. -/
def messageChecksSpec : ChangeSpec := { name := "messageChecks", fn := fun _ => fun
  | [d1, d2] => { results := [.lit (.bool true)], args := [d1, d2] }
  | _ => none }
def messageChecksRow : OpenClaim := { program := "ytohhdoibkopoiaadoor", sum := "1aafbbf8ed7afaf5bb12fca5e9637c02934e26918fc2b34aaa2ed1efb84f144c", func := "turnpike/turnpikelaw18.MessageChecks", spec := "messageChecks", inPlace := ["internal/bytealg.IndexByteString", "internal/bytealg.IndexString"], unfollowed := true, recurses := true, named := ["unicode/utf8.first", "unicode/utf8.acceptRanges", "internal/bytealg.MaxLen"], apart := false, laid := [("unicode/utf8.acceptRanges", laid_unicode_utf8_acceptRanges), ("unicode/utf8.first", laid_unicode_utf8_first)] }
def MessageChecksSaid : Prop := messageChecksRow.holds Tryd.pinned (OpenSpec.ofChange messageChecksSpec)

/-- ITS FALSE NEIGHBOUR: 'it returns false'. Refute it at one input. -/
def messageChecksWrong : ChangeSpec := { name := "messageChecks", fn := fun _ => fun
  | [d1, d2] => { results := [.lit (.bool false)], args := [d1, d2] }
  | _ => none }
def MessageChecksWrongFalsely : Prop := messageChecksRow.holds Tryd.pinned (OpenSpec.ofChange messageChecksWrong)

/-- 'turnpikelaw18.MessageClean': WHATEVER THE INPUT: true; the input reads as it did. -/
def messageCleanSpec : ChangeSpec := { name := "messageClean", fn := fun _ => fun
  | [d] => { results := [.lit (.bool true)], args := [d] }
  | _ => none }
def messageCleanRow : OpenClaim := { program := "ytohhdoibkopoiaadoor", sum := "1aafbbf8ed7afaf5bb12fca5e9637c02934e26918fc2b34aaa2ed1efb84f144c", func := "turnpike/turnpikelaw18.MessageClean", spec := "messageClean", inPlace := ["internal/bytealg.IndexByteString", "internal/bytealg.IndexString"], unfollowed := true, recurses := true, named := ["unicode/utf8.first", "unicode/utf8.acceptRanges", "internal/bytealg.MaxLen"], apart := false, laid := [("unicode/utf8.acceptRanges", laid_unicode_utf8_acceptRanges), ("unicode/utf8.first", laid_unicode_utf8_first)] }
def MessageCleanSaid : Prop := messageCleanRow.holds Tryd.pinned (OpenSpec.ofChange messageCleanSpec)

/-- ITS FALSE NEIGHBOUR: 'it returns false'. Refute it at one input. -/
def messageCleanWrong : ChangeSpec := { name := "messageClean", fn := fun _ => fun
  | [d] => { results := [.lit (.bool false)], args := [d] }
  | _ => none }
def MessageCleanWrongFalsely : Prop := messageCleanRow.holds Tryd.pinned (OpenSpec.ofChange messageCleanWrong)

/-- 'turnpikelaw18.MessageSpoilt': WHATEVER THE INPUT: true; the input reads as it did. -/
def messageSpoiltSpec : ChangeSpec := { name := "messageSpoilt", fn := fun _ => fun
  | [d1, d2, d3] => { results := [.lit (.bool true)], args := [d1, d2, d3] }
  | _ => none }
def messageSpoiltRow : OpenClaim := { program := "ytohhdoibkopoiaadoor", sum := "1aafbbf8ed7afaf5bb12fca5e9637c02934e26918fc2b34aaa2ed1efb84f144c", func := "turnpike/turnpikelaw18.MessageSpoilt", spec := "messageSpoilt", inPlace := ["internal/bytealg.IndexByteString", "internal/bytealg.IndexString"], unfollowed := true, recurses := true, named := ["unicode/utf8.first", "unicode/utf8.acceptRanges", "internal/bytealg.MaxLen"], apart := false, laid := [("unicode/utf8.acceptRanges", laid_unicode_utf8_acceptRanges), ("unicode/utf8.first", laid_unicode_utf8_first)] }
def MessageSpoiltSaid : Prop := messageSpoiltRow.holds Tryd.pinned (OpenSpec.ofChange messageSpoiltSpec)

/-- ITS FALSE NEIGHBOUR: 'it returns false'. Refute it at one input. -/
def messageSpoiltWrong : ChangeSpec := { name := "messageSpoilt", fn := fun _ => fun
  | [d1, d2, d3] => { results := [.lit (.bool false)], args := [d1, d2, d3] }
  | _ => none }
def MessageSpoiltWrongFalsely : Prop := messageSpoiltRow.holds Tryd.pinned (OpenSpec.ofChange messageSpoiltWrong)

/-- 'turnpikelaw18.MessageOrder': WHATEVER THE INPUT: true; the input reads as it did. -/
def messageOrderSpec : ChangeSpec := { name := "messageOrder", fn := fun _ => fun
  | [d1, d2] => { results := [.lit (.bool true)], args := [d1, d2] }
  | _ => none }
def messageOrderRow : OpenClaim := { program := "ytohhdoibkopoiaadoor", sum := "1aafbbf8ed7afaf5bb12fca5e9637c02934e26918fc2b34aaa2ed1efb84f144c", func := "turnpike/turnpikelaw18.MessageOrder", spec := "messageOrder", inPlace := ["internal/bytealg.IndexByteString", "internal/bytealg.IndexString"], unfollowed := true, recurses := true, named := ["unicode/utf8.first", "unicode/utf8.acceptRanges", "internal/bytealg.MaxLen"], apart := false, laid := [("unicode/utf8.acceptRanges", laid_unicode_utf8_acceptRanges), ("unicode/utf8.first", laid_unicode_utf8_first)] }
def MessageOrderSaid : Prop := messageOrderRow.holds Tryd.pinned (OpenSpec.ofChange messageOrderSpec)

/-- ITS FALSE NEIGHBOUR: 'it returns false'. Refute it at one input. -/
def messageOrderWrong : ChangeSpec := { name := "messageOrder", fn := fun _ => fun
  | [d1, d2] => { results := [.lit (.bool false)], args := [d1, d2] }
  | _ => none }
def MessageOrderWrongFalsely : Prop := messageOrderRow.holds Tryd.pinned (OpenSpec.ofChange messageOrderWrong)

/-- 'turnpikelaw18.MessageTrails': WHATEVER THE INPUT: true; the input reads as it did. -/
def messageTrailsSpec : ChangeSpec := { name := "messageTrails", fn := fun _ => fun
  | [d1, d2] => { results := [.lit (.bool true)], args := [d1, d2] }
  | _ => none }
def messageTrailsRow : OpenClaim := { program := "ytohhdoibkopoiaadoor", sum := "1aafbbf8ed7afaf5bb12fca5e9637c02934e26918fc2b34aaa2ed1efb84f144c", func := "turnpike/turnpikelaw18.MessageTrails", spec := "messageTrails", inPlace := ["internal/bytealg.IndexByteString", "internal/bytealg.IndexString"], unfollowed := true, recurses := true, named := ["unicode/utf8.first", "unicode/utf8.acceptRanges", "internal/bytealg.MaxLen"], apart := false, laid := [("unicode/utf8.acceptRanges", laid_unicode_utf8_acceptRanges), ("unicode/utf8.first", laid_unicode_utf8_first)] }
def MessageTrailsSaid : Prop := messageTrailsRow.holds Tryd.pinned (OpenSpec.ofChange messageTrailsSpec)

/-- ITS FALSE NEIGHBOUR: 'it returns false'. Refute it at one input. -/
def messageTrailsWrong : ChangeSpec := { name := "messageTrails", fn := fun _ => fun
  | [d1, d2] => { results := [.lit (.bool false)], args := [d1, d2] }
  | _ => none }
def MessageTrailsWrongFalsely : Prop := messageTrailsRow.holds Tryd.pinned (OpenSpec.ofChange messageTrailsWrong)

/- THE SECOND FORM. 'bulk': how many values and letters a reading holds, each counted each time it is reached (what is shared counts as often as it is met; a slice's spare places count too). A statement '..UptoSaid' is the law's where the arguments, and the package variables that the reading takes, are together of bulk at most 1048576: NARROWER than '..Said'. Prove '..Said' where nothing that the law and all that it calls make is longer than what came in: it says more and counts as full. Else prove '..UptoSaid'. A law counts once. -/
mutual
def uptoBulk {H : Type} : DataW H → Nat
  | .lit (.string bytes) => bytes.length + 1
  | .lit _ => 1
  | .nil => 1
  | .ptr d => uptoBulk d + 1
  | .slice elems spare => uptoBulkAll elems + uptoBulkAll spare + 1
  | .agg parts => uptoBulkAll parts + 1
  | .iface _ d => uptoBulk d + 1
  | .map entries => uptoBulkEntries entries + 1
  | .held _ => 1
def uptoBulkAll {H : Type} : List (DataW H) → Nat
  | [] => 0
  | d :: r => uptoBulk d + uptoBulkAll r
def uptoBulkEntries {H : Type} : List (Lit × DataW H) → Nat
  | [] => 0
  | x :: r => uptoBulkEntry x + uptoBulkEntries r
def uptoBulkEntry {H : Type} : Lit × DataW H → Nat
  | (.string bytes, d) => bytes.length + uptoBulk d + 1
  | (_, d) => uptoBulk d + 1
 end
def uptoSmall : (H : Type) → List (DataW H) → Bool := fun _ ds => decide (uptoBulkAll ds ≤ 1048576)
def OpenSpec.upto (s : _root_.Go.ChangeSpec) : _root_.Go.OpenSpec := { _root_.Go.OpenSpec.ofChange s with cond := some uptoSmall }

/-- 'turnpikelaw18.MessageChecks', WHERE WHAT IT READS IS OF BULK AT MOST 1048576: true; the input reads as it did. -/
def messageChecksUptoRow : OpenClaim := { program := "ytohhdoibkopoiaadoor", sum := "1aafbbf8ed7afaf5bb12fca5e9637c02934e26918fc2b34aaa2ed1efb84f144c", func := "turnpike/turnpikelaw18.MessageChecks", spec := "messageChecks", inPlace := ["internal/bytealg.IndexByteString", "internal/bytealg.IndexString"], unfollowed := true, recurses := true, named := ["unicode/utf8.first", "unicode/utf8.acceptRanges", "internal/bytealg.MaxLen"], apart := false, laid := [("unicode/utf8.acceptRanges", laid_unicode_utf8_acceptRanges), ("unicode/utf8.first", laid_unicode_utf8_first)], narrowed := true }
def MessageChecksUptoSaid : Prop := messageChecksUptoRow.holds Tryd.pinned (OpenSpec.upto messageChecksSpec)

/-- 'turnpikelaw18.MessageClean', WHERE WHAT IT READS IS OF BULK AT MOST 1048576: true; the input reads as it did. -/
def messageCleanUptoRow : OpenClaim := { program := "ytohhdoibkopoiaadoor", sum := "1aafbbf8ed7afaf5bb12fca5e9637c02934e26918fc2b34aaa2ed1efb84f144c", func := "turnpike/turnpikelaw18.MessageClean", spec := "messageClean", inPlace := ["internal/bytealg.IndexByteString", "internal/bytealg.IndexString"], unfollowed := true, recurses := true, named := ["unicode/utf8.first", "unicode/utf8.acceptRanges", "internal/bytealg.MaxLen"], apart := false, laid := [("unicode/utf8.acceptRanges", laid_unicode_utf8_acceptRanges), ("unicode/utf8.first", laid_unicode_utf8_first)], narrowed := true }
def MessageCleanUptoSaid : Prop := messageCleanUptoRow.holds Tryd.pinned (OpenSpec.upto messageCleanSpec)

/-- 'turnpikelaw18.MessageSpoilt', WHERE WHAT IT READS IS OF BULK AT MOST 1048576: true; the input reads as it did. -/
def messageSpoiltUptoRow : OpenClaim := { program := "ytohhdoibkopoiaadoor", sum := "1aafbbf8ed7afaf5bb12fca5e9637c02934e26918fc2b34aaa2ed1efb84f144c", func := "turnpike/turnpikelaw18.MessageSpoilt", spec := "messageSpoilt", inPlace := ["internal/bytealg.IndexByteString", "internal/bytealg.IndexString"], unfollowed := true, recurses := true, named := ["unicode/utf8.first", "unicode/utf8.acceptRanges", "internal/bytealg.MaxLen"], apart := false, laid := [("unicode/utf8.acceptRanges", laid_unicode_utf8_acceptRanges), ("unicode/utf8.first", laid_unicode_utf8_first)], narrowed := true }
def MessageSpoiltUptoSaid : Prop := messageSpoiltUptoRow.holds Tryd.pinned (OpenSpec.upto messageSpoiltSpec)

/-- 'turnpikelaw18.MessageOrder', WHERE WHAT IT READS IS OF BULK AT MOST 1048576: true; the input reads as it did. -/
def messageOrderUptoRow : OpenClaim := { program := "ytohhdoibkopoiaadoor", sum := "1aafbbf8ed7afaf5bb12fca5e9637c02934e26918fc2b34aaa2ed1efb84f144c", func := "turnpike/turnpikelaw18.MessageOrder", spec := "messageOrder", inPlace := ["internal/bytealg.IndexByteString", "internal/bytealg.IndexString"], unfollowed := true, recurses := true, named := ["unicode/utf8.first", "unicode/utf8.acceptRanges", "internal/bytealg.MaxLen"], apart := false, laid := [("unicode/utf8.acceptRanges", laid_unicode_utf8_acceptRanges), ("unicode/utf8.first", laid_unicode_utf8_first)], narrowed := true }
def MessageOrderUptoSaid : Prop := messageOrderUptoRow.holds Tryd.pinned (OpenSpec.upto messageOrderSpec)

/-- 'turnpikelaw18.MessageTrails', WHERE WHAT IT READS IS OF BULK AT MOST 1048576: true; the input reads as it did. -/
def messageTrailsUptoRow : OpenClaim := { program := "ytohhdoibkopoiaadoor", sum := "1aafbbf8ed7afaf5bb12fca5e9637c02934e26918fc2b34aaa2ed1efb84f144c", func := "turnpike/turnpikelaw18.MessageTrails", spec := "messageTrails", inPlace := ["internal/bytealg.IndexByteString", "internal/bytealg.IndexString"], unfollowed := true, recurses := true, named := ["unicode/utf8.first", "unicode/utf8.acceptRanges", "internal/bytealg.MaxLen"], apart := false, laid := [("unicode/utf8.acceptRanges", laid_unicode_utf8_acceptRanges), ("unicode/utf8.first", laid_unicode_utf8_first)], narrowed := true }
def MessageTrailsUptoSaid : Prop := messageTrailsUptoRow.holds Tryd.pinned (OpenSpec.upto messageTrailsSpec)

end Rows
end Go.Proofs.YtohhdoibkopoiaaDoor
