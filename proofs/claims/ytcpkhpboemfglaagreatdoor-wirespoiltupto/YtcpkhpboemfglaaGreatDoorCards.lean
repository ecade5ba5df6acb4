/-
  DERIVED. GIVEN WITH THE SEED: THE CARDS: each row of YtcpkhpboemfglaaGreatDoorRows.lean that lists a variable, with what it lists TIED to the program's text (the seventh form; the later family's looks); each row that meets fmt, with fmt's text TOLD by the authors' own Lean function (tested against real Go, not proved from fmt's source: count such statements apart). THE CARD IS WHAT COUNTS. Prove the row's statement (the work); the ties are given (YtcpkhpboemfglaaGreatDoorTie.lean); close each card by the builder's one call (the guide's Derived/Test/ToyasCard.lean, 'card_holds'). Laid BY PROGRAM, IN A SANDBOX (cutbox-door.mjs). By AI agents, Wed Nov 11 2026. No macro, syntax, notation, axiom, sorry.
-/
import Derived.Test.YtcpkhpboemfglaaGreatDoorRows
import GoSem.ClaimSeven
namespace Go.Proofs.YtcpkhpboemfglaaGreatDoor
namespace Rows

/-- THE TIED CARD OF 'chartularylaw14.EntryEncodes'. -/
def entryEncodesCard : Claim7 := { stood := { row := entryEncodesRow, standIns := [], harness := (true, "475ec6f6ec487a0568a68db110633029d0981d6d3f764e6e0fd38c144c293254"), looks := false }, kinds := [], alts := [], laidByText := true, laidKinds := [.data, .pinned], laidTests := true, laidLooks := .later }
def EntryEncodesCardSaid : Prop := Claim7.holds Tryz.pinned (.plain (OpenSpec.ofChange entryEncodesSpec)) entryEncodesCard

/-- THE TIED CARD OF 'chartularylaw14.EntryBack'. -/
def entryBackCard : Claim7 := { stood := { row := entryBackRow, standIns := [], harness := (true, "475ec6f6ec487a0568a68db110633029d0981d6d3f764e6e0fd38c144c293254"), looks := false }, kinds := [], alts := [], laidByText := true, laidKinds := [.data, .pinned], laidTests := true, laidLooks := .later }
def EntryBackCardSaid : Prop := Claim7.holds Tryz.pinned (.plain (OpenSpec.ofChange entryBackSpec)) entryBackCard

/-- THE TIED CARD OF 'chartularylaw14.EntryReads'. -/
def entryReadsCard : Claim7 := { stood := { row := entryReadsRow, standIns := [], harness := (true, "475ec6f6ec487a0568a68db110633029d0981d6d3f764e6e0fd38c144c293254"), looks := false }, kinds := [], alts := [], laidByText := true, laidKinds := [.data, .pinned], laidTests := true, laidLooks := .later }
def EntryReadsCardSaid : Prop := Claim7.holds Tryz.pinned (.plain (OpenSpec.ofChange entryReadsSpec)) entryReadsCard

/-- THE TIED CARD OF 'chartularylaw14.EntrySpoilt'. -/
def entrySpoiltCard : Claim7 := { stood := { row := entrySpoiltRow, standIns := [], harness := (true, "475ec6f6ec487a0568a68db110633029d0981d6d3f764e6e0fd38c144c293254"), looks := false }, kinds := [], alts := [], laidByText := true, laidKinds := [.data, .pinned], laidTests := true, laidLooks := .later }
def EntrySpoiltCardSaid : Prop := Claim7.holds Tryz.pinned (.plain (OpenSpec.ofChange entrySpoiltSpec)) entrySpoiltCard

/-- THE TIED CARD OF 'chartularylaw14.EntryApart'. -/
def entryApartCard : Claim7 := { stood := { row := entryApartRow, standIns := [], harness := (true, "475ec6f6ec487a0568a68db110633029d0981d6d3f764e6e0fd38c144c293254"), looks := false }, kinds := [], alts := [], laidByText := true, laidKinds := [.data, .pinned], laidTests := true, laidLooks := .later }
def EntryApartCardSaid : Prop := Claim7.holds Tryz.pinned (.plain (OpenSpec.ofChange entryApartSpec)) entryApartCard

/-- THE TIED CARD OF 'chartularylaw26.WireAsked'. -/
def wireAskedCard : Claim7 := { stood := { row := wireAskedRow, standIns := [], harness := (true, "475ec6f6ec487a0568a68db110633029d0981d6d3f764e6e0fd38c144c293254"), looks := false }, kinds := [], alts := [], laidByText := true, laidKinds := [.data, .pinned], laidTests := true, laidLooks := .later }
def WireAskedCardSaid : Prop := Claim7.holds Tryz.pinned (.plain (OpenSpec.ofChange wireAskedSpec)) wireAskedCard

/-- THE TIED CARD OF 'chartularylaw26.WireTells'. -/
def wireTellsCard : Claim7 := { stood := { row := wireTellsRow, standIns := [], harness := (true, "475ec6f6ec487a0568a68db110633029d0981d6d3f764e6e0fd38c144c293254"), looks := false }, kinds := [], alts := [], laidByText := true, laidKinds := [.data, .pinned], laidTests := true, laidLooks := .later }
def WireTellsCardSaid : Prop := Claim7.holds Tryz.pinned (.plain (OpenSpec.ofChange wireTellsSpec)) wireTellsCard

/-- THE TIED CARD OF 'chartularylaw26.WireSpoilt'. -/
def wireSpoiltCard : Claim7 := { stood := { row := wireSpoiltRow, standIns := [], harness := (true, "475ec6f6ec487a0568a68db110633029d0981d6d3f764e6e0fd38c144c293254"), looks := false }, kinds := [], alts := [], laidByText := true, laidKinds := [.data, .pinned], laidTests := true, laidLooks := .later }
def WireSpoiltCardSaid : Prop := Claim7.holds Tryz.pinned (.plain (OpenSpec.ofChange wireSpoiltSpec)) wireSpoiltCard

/-- THE TIED CARD OF 'chartularylaw26.WireAsks'. -/
def wireAsksCard : Claim7 := { stood := { row := wireAsksRow, standIns := [], harness := (true, "475ec6f6ec487a0568a68db110633029d0981d6d3f764e6e0fd38c144c293254"), looks := false }, kinds := [], alts := [], laidByText := true, laidKinds := [.data, .pinned], laidTests := true, laidLooks := .later }
def WireAsksCardSaid : Prop := Claim7.holds Tryz.pinned (.plain (OpenSpec.ofChange wireAsksSpec)) wireAsksCard

/-- THE TIED CARD OF 'chartularylaw26.WireTold'. -/
def wireToldCard : Claim7 := { stood := { row := wireToldRow, standIns := [], harness := (true, "475ec6f6ec487a0568a68db110633029d0981d6d3f764e6e0fd38c144c293254"), looks := false }, kinds := [], alts := [], laidByText := true, laidKinds := [.data, .pinned], laidTests := true, laidLooks := .later }
def WireToldCardSaid : Prop := Claim7.holds Tryz.pinned (.plain (OpenSpec.ofChange wireToldSpec)) wireToldCard

/-- THE SECOND FORM's CARD OF 'chartularylaw14.EntryEncodes'. -/
def entryEncodesUptoCard : Claim7 := { stood := { row := entryEncodesUptoRow, standIns := [], harness := (true, "475ec6f6ec487a0568a68db110633029d0981d6d3f764e6e0fd38c144c293254"), looks := false }, kinds := [], alts := [], laidByText := true, laidKinds := [.data, .pinned], laidTests := true, laidLooks := .later }
def EntryEncodesUptoCardSaid : Prop := Claim7.holds Tryz.pinned (.plain (OpenSpec.upto entryEncodesSpec)) entryEncodesUptoCard

/-- THE SECOND FORM's CARD OF 'chartularylaw14.EntryBack'. -/
def entryBackUptoCard : Claim7 := { stood := { row := entryBackUptoRow, standIns := [], harness := (true, "475ec6f6ec487a0568a68db110633029d0981d6d3f764e6e0fd38c144c293254"), looks := false }, kinds := [], alts := [], laidByText := true, laidKinds := [.data, .pinned], laidTests := true, laidLooks := .later }
def EntryBackUptoCardSaid : Prop := Claim7.holds Tryz.pinned (.plain (OpenSpec.upto entryBackSpec)) entryBackUptoCard

/-- THE SECOND FORM's CARD OF 'chartularylaw14.EntryReads'. -/
def entryReadsUptoCard : Claim7 := { stood := { row := entryReadsUptoRow, standIns := [], harness := (true, "475ec6f6ec487a0568a68db110633029d0981d6d3f764e6e0fd38c144c293254"), looks := false }, kinds := [], alts := [], laidByText := true, laidKinds := [.data, .pinned], laidTests := true, laidLooks := .later }
def EntryReadsUptoCardSaid : Prop := Claim7.holds Tryz.pinned (.plain (OpenSpec.upto entryReadsSpec)) entryReadsUptoCard

/-- THE SECOND FORM's CARD OF 'chartularylaw14.EntrySpoilt'. -/
def entrySpoiltUptoCard : Claim7 := { stood := { row := entrySpoiltUptoRow, standIns := [], harness := (true, "475ec6f6ec487a0568a68db110633029d0981d6d3f764e6e0fd38c144c293254"), looks := false }, kinds := [], alts := [], laidByText := true, laidKinds := [.data, .pinned], laidTests := true, laidLooks := .later }
def EntrySpoiltUptoCardSaid : Prop := Claim7.holds Tryz.pinned (.plain (OpenSpec.upto entrySpoiltSpec)) entrySpoiltUptoCard

/-- THE SECOND FORM's CARD OF 'chartularylaw14.EntryApart'. -/
def entryApartUptoCard : Claim7 := { stood := { row := entryApartUptoRow, standIns := [], harness := (true, "475ec6f6ec487a0568a68db110633029d0981d6d3f764e6e0fd38c144c293254"), looks := false }, kinds := [], alts := [], laidByText := true, laidKinds := [.data, .pinned], laidTests := true, laidLooks := .later }
def EntryApartUptoCardSaid : Prop := Claim7.holds Tryz.pinned (.plain (OpenSpec.upto entryApartSpec)) entryApartUptoCard

/-- THE SECOND FORM's CARD OF 'chartularylaw26.WireAsked'. -/
def wireAskedUptoCard : Claim7 := { stood := { row := wireAskedUptoRow, standIns := [], harness := (true, "475ec6f6ec487a0568a68db110633029d0981d6d3f764e6e0fd38c144c293254"), looks := false }, kinds := [], alts := [], laidByText := true, laidKinds := [.data, .pinned], laidTests := true, laidLooks := .later }
def WireAskedUptoCardSaid : Prop := Claim7.holds Tryz.pinned (.plain (OpenSpec.upto wireAskedSpec)) wireAskedUptoCard

/-- THE SECOND FORM's CARD OF 'chartularylaw26.WireTells'. -/
def wireTellsUptoCard : Claim7 := { stood := { row := wireTellsUptoRow, standIns := [], harness := (true, "475ec6f6ec487a0568a68db110633029d0981d6d3f764e6e0fd38c144c293254"), looks := false }, kinds := [], alts := [], laidByText := true, laidKinds := [.data, .pinned], laidTests := true, laidLooks := .later }
def WireTellsUptoCardSaid : Prop := Claim7.holds Tryz.pinned (.plain (OpenSpec.upto wireTellsSpec)) wireTellsUptoCard

/-- THE SECOND FORM's CARD OF 'chartularylaw26.WireSpoilt'. -/
def wireSpoiltUptoCard : Claim7 := { stood := { row := wireSpoiltUptoRow, standIns := [], harness := (true, "475ec6f6ec487a0568a68db110633029d0981d6d3f764e6e0fd38c144c293254"), looks := false }, kinds := [], alts := [], laidByText := true, laidKinds := [.data, .pinned], laidTests := true, laidLooks := .later }
def WireSpoiltUptoCardSaid : Prop := Claim7.holds Tryz.pinned (.plain (OpenSpec.upto wireSpoiltSpec)) wireSpoiltUptoCard

/-- THE SECOND FORM's CARD OF 'chartularylaw26.WireAsks'. -/
def wireAsksUptoCard : Claim7 := { stood := { row := wireAsksUptoRow, standIns := [], harness := (true, "475ec6f6ec487a0568a68db110633029d0981d6d3f764e6e0fd38c144c293254"), looks := false }, kinds := [], alts := [], laidByText := true, laidKinds := [.data, .pinned], laidTests := true, laidLooks := .later }
def WireAsksUptoCardSaid : Prop := Claim7.holds Tryz.pinned (.plain (OpenSpec.upto wireAsksSpec)) wireAsksUptoCard

/-- THE SECOND FORM's CARD OF 'chartularylaw26.WireTold'. -/
def wireToldUptoCard : Claim7 := { stood := { row := wireToldUptoRow, standIns := [], harness := (true, "475ec6f6ec487a0568a68db110633029d0981d6d3f764e6e0fd38c144c293254"), looks := false }, kinds := [], alts := [], laidByText := true, laidKinds := [.data, .pinned], laidTests := true, laidLooks := .later }
def WireToldUptoCardSaid : Prop := Claim7.holds Tryz.pinned (.plain (OpenSpec.upto wireToldSpec)) wireToldUptoCard
end Rows
end Go.Proofs.YtcpkhpboemfglaaGreatDoor
