/-
  DERIVED. GIVEN WITH THE SEED: THE CARDS: each row of YtaaofanhjolikaaGreatDoorRows.lean that lists a variable, with what it lists TIED to the program's text (the seventh form; the later family's looks); each row that meets fmt, with fmt's text TOLD by the authors' own Lean function (tested against real Go, not proved from fmt's source: count such statements apart). THE CARD IS WHAT COUNTS. Prove the row's statement (the work); the ties are given (YtaaofanhjolikaaGreatDoorTie.lean); close each card by the builder's one call (the guide's Derived/Test/ToyasCard.lean, 'card_holds'). Laid BY PROGRAM, IN A SANDBOX (cutbox-door.mjs). By AI agents, Wed Nov 11 2026. No macro, syntax, notation, axiom, sorry.
-/
import Derived.Test.YtaaofanhjolikaaGreatDoorRows
import GoSem.ClaimSeven
namespace Go.Proofs.YtaaofanhjolikaaGreatDoor
namespace Rows

/-- THE TIED CARD OF 'turnpikelaw22.RelayRetries'. -/
def relayRetriesCard : Claim7 := { stood := { row := relayRetriesRow, standIns := [], harness := (true, "a10f70437dade4cd6a03a8229515671a3aefba78da11e90c2b4f75813192a145"), looks := true }, kinds := [], alts := [], laidByText := true, laidKinds := [.data, .data, .data, .data, .sentinel, .sentinel, .sentinel, .pinned], laidTests := true, laidLooks := .later }
def RelayRetriesCardSaid : Prop := Claim7.holds Tryz.pinned (.plain (OpenSpec.ofChange relayRetriesSpec)) relayRetriesCard

/-- THE TIED CARD OF 'turnpikelaw22.RelayTimes'. -/
def relayTimesCard : Claim7 := { stood := { row := relayTimesRow, standIns := [], harness := (true, "a10f70437dade4cd6a03a8229515671a3aefba78da11e90c2b4f75813192a145"), looks := true }, kinds := [], alts := [], laidByText := true, laidKinds := [.data, .data, .data, .data, .sentinel, .sentinel, .sentinel, .pinned], laidTests := true, laidLooks := .later }
def RelayTimesCardSaid : Prop := Claim7.holds Tryz.pinned (.plain (OpenSpec.ofChange relayTimesSpec)) relayTimesCard

/-- THE TIED CARD OF 'turnpikelaw22.RelayNews'. -/
def relayNewsCard : Claim7 := { stood := { row := relayNewsRow, standIns := [], harness := (true, "a10f70437dade4cd6a03a8229515671a3aefba78da11e90c2b4f75813192a145"), looks := true }, kinds := [], alts := [], laidByText := true, laidKinds := [.data, .data, .data, .data, .sentinel, .sentinel, .sentinel, .pinned], laidTests := true, laidLooks := .later }
def RelayNewsCardSaid : Prop := Claim7.holds Tryz.pinned (.plain (OpenSpec.ofChange relayNewsSpec)) relayNewsCard

/-- THE SECOND FORM's CARD OF 'turnpikelaw22.RelayRetries'. -/
def relayRetriesUptoCard : Claim7 := { stood := { row := relayRetriesUptoRow, standIns := [], harness := (true, "a10f70437dade4cd6a03a8229515671a3aefba78da11e90c2b4f75813192a145"), looks := true }, kinds := [], alts := [], laidByText := true, laidKinds := [.data, .data, .data, .data, .sentinel, .sentinel, .sentinel, .pinned], laidTests := true, laidLooks := .later }
def RelayRetriesUptoCardSaid : Prop := Claim7.holds Tryz.pinned (.plain (OpenSpec.upto relayRetriesSpec)) relayRetriesUptoCard

/-- THE SECOND FORM's CARD OF 'turnpikelaw22.RelayTimes'. -/
def relayTimesUptoCard : Claim7 := { stood := { row := relayTimesUptoRow, standIns := [], harness := (true, "a10f70437dade4cd6a03a8229515671a3aefba78da11e90c2b4f75813192a145"), looks := true }, kinds := [], alts := [], laidByText := true, laidKinds := [.data, .data, .data, .data, .sentinel, .sentinel, .sentinel, .pinned], laidTests := true, laidLooks := .later }
def RelayTimesUptoCardSaid : Prop := Claim7.holds Tryz.pinned (.plain (OpenSpec.upto relayTimesSpec)) relayTimesUptoCard

/-- THE SECOND FORM's CARD OF 'turnpikelaw22.RelayNews'. -/
def relayNewsUptoCard : Claim7 := { stood := { row := relayNewsUptoRow, standIns := [], harness := (true, "a10f70437dade4cd6a03a8229515671a3aefba78da11e90c2b4f75813192a145"), looks := true }, kinds := [], alts := [], laidByText := true, laidKinds := [.data, .data, .data, .data, .sentinel, .sentinel, .sentinel, .pinned], laidTests := true, laidLooks := .later }
def RelayNewsUptoCardSaid : Prop := Claim7.holds Tryz.pinned (.plain (OpenSpec.upto relayNewsSpec)) relayNewsUptoCard
end Rows
end Go.Proofs.YtaaofanhjolikaaGreatDoor
