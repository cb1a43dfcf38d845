/-
  DERIVED. GIVEN WITH THE SEED: THE CARDS: each row of YtohhdoibkopoiaaDoorRows.lean that lists a variable, with what it lists TIED to the program's text (the seventh form; the later family's looks); each row that meets fmt, with fmt's text TOLD by the authors' own Lean function (tested against real Go, not proved from fmt's source: count such statements apart). THE CARD IS WHAT COUNTS. Prove the row's statement (the work); the ties are given (YtohhdoibkopoiaaDoorTie.lean); close each card by the builder's one call (the guide's Derived/Test/ToyasCard.lean, 'card_holds'). Laid BY PROGRAM, IN A SANDBOX (cutbox-door.mjs). By AI agents, Wed Nov 11 2026. No macro, syntax, notation, axiom, sorry.
-/
import Derived.Test.YtohhdoibkopoiaaDoorRows
import GoSem.ClaimSeven
namespace Go.Proofs.YtohhdoibkopoiaaDoor
namespace Rows

/-- THE TIED CARD OF 'turnpikelaw18.MessageChecks'. -/
def messageChecksCard : Claim7 := { stood := { row := messageChecksRow, standIns := [], harness := (true, "36737371a2da27b2f6e82074d7fff54e6ca70cf8d88fd188f76d4def43230f97"), looks := true }, kinds := [], alts := [], laidByText := true, laidKinds := [.data, .pinned], laidTests := true, laidLooks := .later }
def MessageChecksCardSaid : Prop := Claim7.holds Tryd.pinned (.plain (OpenSpec.ofChange messageChecksSpec)) messageChecksCard

/-- THE TIED CARD OF 'turnpikelaw18.MessageClean'. -/
def messageCleanCard : Claim7 := { stood := { row := messageCleanRow, standIns := [], harness := (true, "36737371a2da27b2f6e82074d7fff54e6ca70cf8d88fd188f76d4def43230f97"), looks := true }, kinds := [], alts := [], laidByText := true, laidKinds := [.data, .pinned], laidTests := true, laidLooks := .later }
def MessageCleanCardSaid : Prop := Claim7.holds Tryd.pinned (.plain (OpenSpec.ofChange messageCleanSpec)) messageCleanCard

/-- THE TIED CARD OF 'turnpikelaw18.MessageSpoilt'. -/
def messageSpoiltCard : Claim7 := { stood := { row := messageSpoiltRow, standIns := [], harness := (true, "36737371a2da27b2f6e82074d7fff54e6ca70cf8d88fd188f76d4def43230f97"), looks := true }, kinds := [], alts := [], laidByText := true, laidKinds := [.data, .pinned], laidTests := true, laidLooks := .later }
def MessageSpoiltCardSaid : Prop := Claim7.holds Tryd.pinned (.plain (OpenSpec.ofChange messageSpoiltSpec)) messageSpoiltCard

/-- THE TIED CARD OF 'turnpikelaw18.MessageOrder'. -/
def messageOrderCard : Claim7 := { stood := { row := messageOrderRow, standIns := [], harness := (true, "36737371a2da27b2f6e82074d7fff54e6ca70cf8d88fd188f76d4def43230f97"), looks := true }, kinds := [], alts := [], laidByText := true, laidKinds := [.data, .pinned], laidTests := true, laidLooks := .later }
def MessageOrderCardSaid : Prop := Claim7.holds Tryd.pinned (.plain (OpenSpec.ofChange messageOrderSpec)) messageOrderCard

/-- THE TIED CARD OF 'turnpikelaw18.MessageTrails'. -/
def messageTrailsCard : Claim7 := { stood := { row := messageTrailsRow, standIns := [], harness := (true, "36737371a2da27b2f6e82074d7fff54e6ca70cf8d88fd188f76d4def43230f97"), looks := true }, kinds := [], alts := [], laidByText := true, laidKinds := [.data, .pinned], laidTests := true, laidLooks := .later }
def MessageTrailsCardSaid : Prop := Claim7.holds Tryd.pinned (.plain (OpenSpec.ofChange messageTrailsSpec)) messageTrailsCard

/-- THE SECOND FORM's CARD OF 'turnpikelaw18.MessageChecks'. -/
def messageChecksUptoCard : Claim7 := { stood := { row := messageChecksUptoRow, standIns := [], harness := (true, "36737371a2da27b2f6e82074d7fff54e6ca70cf8d88fd188f76d4def43230f97"), looks := true }, kinds := [], alts := [], laidByText := true, laidKinds := [.data, .pinned], laidTests := true, laidLooks := .later }
def MessageChecksUptoCardSaid : Prop := Claim7.holds Tryd.pinned (.plain (OpenSpec.upto messageChecksSpec)) messageChecksUptoCard

/-- THE SECOND FORM's CARD OF 'turnpikelaw18.MessageClean'. -/
def messageCleanUptoCard : Claim7 := { stood := { row := messageCleanUptoRow, standIns := [], harness := (true, "36737371a2da27b2f6e82074d7fff54e6ca70cf8d88fd188f76d4def43230f97"), looks := true }, kinds := [], alts := [], laidByText := true, laidKinds := [.data, .pinned], laidTests := true, laidLooks := .later }
def MessageCleanUptoCardSaid : Prop := Claim7.holds Tryd.pinned (.plain (OpenSpec.upto messageCleanSpec)) messageCleanUptoCard

/-- THE SECOND FORM's CARD OF 'turnpikelaw18.MessageSpoilt'. -/
def messageSpoiltUptoCard : Claim7 := { stood := { row := messageSpoiltUptoRow, standIns := [], harness := (true, "36737371a2da27b2f6e82074d7fff54e6ca70cf8d88fd188f76d4def43230f97"), looks := true }, kinds := [], alts := [], laidByText := true, laidKinds := [.data, .pinned], laidTests := true, laidLooks := .later }
def MessageSpoiltUptoCardSaid : Prop := Claim7.holds Tryd.pinned (.plain (OpenSpec.upto messageSpoiltSpec)) messageSpoiltUptoCard

/-- THE SECOND FORM's CARD OF 'turnpikelaw18.MessageOrder'. -/
def messageOrderUptoCard : Claim7 := { stood := { row := messageOrderUptoRow, standIns := [], harness := (true, "36737371a2da27b2f6e82074d7fff54e6ca70cf8d88fd188f76d4def43230f97"), looks := true }, kinds := [], alts := [], laidByText := true, laidKinds := [.data, .pinned], laidTests := true, laidLooks := .later }
def MessageOrderUptoCardSaid : Prop := Claim7.holds Tryd.pinned (.plain (OpenSpec.upto messageOrderSpec)) messageOrderUptoCard

/-- THE SECOND FORM's CARD OF 'turnpikelaw18.MessageTrails'. -/
def messageTrailsUptoCard : Claim7 := { stood := { row := messageTrailsUptoRow, standIns := [], harness := (true, "36737371a2da27b2f6e82074d7fff54e6ca70cf8d88fd188f76d4def43230f97"), looks := true }, kinds := [], alts := [], laidByText := true, laidKinds := [.data, .pinned], laidTests := true, laidLooks := .later }
def MessageTrailsUptoCardSaid : Prop := Claim7.holds Tryd.pinned (.plain (OpenSpec.upto messageTrailsSpec)) messageTrailsUptoCard
end Rows
end Go.Proofs.YtohhdoibkopoiaaDoor
