/-
  DERIVED. GIVEN WITH THE SEED: THE CARDS: each row of YtdlkpmohjhjmfaaGreatDoorRows.lean that lists a variable, with what it lists TIED to the program's text (the seventh form; the later family's looks); each row that meets fmt, with fmt's text TOLD by the authors' own Lean function (tested against real Go, not proved from fmt's source: count such statements apart). THE CARD IS WHAT COUNTS. Prove the row's statement (the work); the ties are given (YtdlkpmohjhjmfaaGreatDoorTie.lean); close each card by the builder's one call (the guide's Derived/Test/ToyasCard.lean, 'card_holds'). Laid BY PROGRAM, IN A SANDBOX (cutbox-door.mjs). By AI agents, Wed Nov 11 2026. No macro, syntax, notation, axiom, sorry.
-/
import Derived.Test.YtdlkpmohjhjmfaaGreatDoorRows
import GoSem.ClaimSeven
namespace Go.Proofs.YtdlkpmohjhjmfaaGreatDoor
namespace Rows

/-- THE TIED CARD OF 'chartularylaw30.ScriptLines'. -/
def scriptLinesCard : Claim7 := { stood := { row := scriptLinesRow, standIns := [], harness := (true, "5f881ffcf2cf04f892609c2791c8fbf33a53fc61dc7b485355293230dd683c0d"), looks := true }, kinds := [], alts := [], laidByText := true, laidKinds := [.data, .data, .data, .data, .sentinel, .sentinel, .pinned], laidTests := true, laidLooks := .later }
def ScriptLinesCardSaid : Prop := Claim7.holds Tryz.pinned (.plain (OpenSpec.ofChange scriptLinesSpec)) scriptLinesCard

/-- THE TIED CARD OF 'chartularylaw30.ScriptReads'. -/
def scriptReadsCard : Claim7 := { stood := { row := scriptReadsRow, standIns := [], harness := (true, "5f881ffcf2cf04f892609c2791c8fbf33a53fc61dc7b485355293230dd683c0d"), looks := true }, kinds := [], alts := [], laidByText := true, laidKinds := [.data, .data, .data, .data, .sentinel, .sentinel, .pinned], laidTests := true, laidLooks := .later }
def ScriptReadsCardSaid : Prop := Claim7.holds Tryz.pinned (.plain (OpenSpec.ofChange scriptReadsSpec)) scriptReadsCard

/-- THE TIED CARD OF 'chartularylaw30.ScriptFinds'. -/
def scriptFindsCard : Claim7 := { stood := { row := scriptFindsRow, standIns := [], harness := (true, "5f881ffcf2cf04f892609c2791c8fbf33a53fc61dc7b485355293230dd683c0d"), looks := true }, kinds := [], alts := [], laidByText := true, laidKinds := [.data, .data, .data, .data, .sentinel, .sentinel, .pinned], laidTests := true, laidLooks := .later }
def ScriptFindsCardSaid : Prop := Claim7.holds Tryz.pinned (.plain (OpenSpec.ofChange scriptFindsSpec)) scriptFindsCard

/-- THE TIED CARD OF 'chartularylaw30.ScriptReplies'. -/
def scriptRepliesCard : Claim7 := { stood := { row := scriptRepliesRow, standIns := [], harness := (true, "5f881ffcf2cf04f892609c2791c8fbf33a53fc61dc7b485355293230dd683c0d"), looks := true }, kinds := [], alts := [], laidByText := true, laidKinds := [.data, .data, .data, .data, .sentinel, .sentinel, .pinned], laidTests := true, laidLooks := .later }
def ScriptRepliesCardSaid : Prop := Claim7.holds Tryz.pinned (.plain (OpenSpec.ofChange scriptRepliesSpec)) scriptRepliesCard

/-- THE TIED CARD OF 'chartularylaw30.ScriptTexts'. -/
def scriptTextsCard : Claim7 := { stood := { row := scriptTextsRow, standIns := [], harness := (true, "5f881ffcf2cf04f892609c2791c8fbf33a53fc61dc7b485355293230dd683c0d"), looks := true }, kinds := [], alts := [], laidByText := true, laidKinds := [.data, .data, .data, .data, .sentinel, .sentinel, .pinned], laidTests := true, laidLooks := .later }
def ScriptTextsCardSaid : Prop := Claim7.holds Tryz.pinned (.plain (OpenSpec.ofChange scriptTextsSpec)) scriptTextsCard

/-- THE SECOND FORM's CARD OF 'chartularylaw30.ScriptLines'. -/
def scriptLinesUptoCard : Claim7 := { stood := { row := scriptLinesUptoRow, standIns := [], harness := (true, "5f881ffcf2cf04f892609c2791c8fbf33a53fc61dc7b485355293230dd683c0d"), looks := true }, kinds := [], alts := [], laidByText := true, laidKinds := [.data, .data, .data, .data, .sentinel, .sentinel, .pinned], laidTests := true, laidLooks := .later }
def ScriptLinesUptoCardSaid : Prop := Claim7.holds Tryz.pinned (.plain (OpenSpec.upto scriptLinesSpec)) scriptLinesUptoCard

/-- THE SECOND FORM's CARD OF 'chartularylaw30.ScriptReads'. -/
def scriptReadsUptoCard : Claim7 := { stood := { row := scriptReadsUptoRow, standIns := [], harness := (true, "5f881ffcf2cf04f892609c2791c8fbf33a53fc61dc7b485355293230dd683c0d"), looks := true }, kinds := [], alts := [], laidByText := true, laidKinds := [.data, .data, .data, .data, .sentinel, .sentinel, .pinned], laidTests := true, laidLooks := .later }
def ScriptReadsUptoCardSaid : Prop := Claim7.holds Tryz.pinned (.plain (OpenSpec.upto scriptReadsSpec)) scriptReadsUptoCard

/-- THE SECOND FORM's CARD OF 'chartularylaw30.ScriptFinds'. -/
def scriptFindsUptoCard : Claim7 := { stood := { row := scriptFindsUptoRow, standIns := [], harness := (true, "5f881ffcf2cf04f892609c2791c8fbf33a53fc61dc7b485355293230dd683c0d"), looks := true }, kinds := [], alts := [], laidByText := true, laidKinds := [.data, .data, .data, .data, .sentinel, .sentinel, .pinned], laidTests := true, laidLooks := .later }
def ScriptFindsUptoCardSaid : Prop := Claim7.holds Tryz.pinned (.plain (OpenSpec.upto scriptFindsSpec)) scriptFindsUptoCard

/-- THE SECOND FORM's CARD OF 'chartularylaw30.ScriptReplies'. -/
def scriptRepliesUptoCard : Claim7 := { stood := { row := scriptRepliesUptoRow, standIns := [], harness := (true, "5f881ffcf2cf04f892609c2791c8fbf33a53fc61dc7b485355293230dd683c0d"), looks := true }, kinds := [], alts := [], laidByText := true, laidKinds := [.data, .data, .data, .data, .sentinel, .sentinel, .pinned], laidTests := true, laidLooks := .later }
def ScriptRepliesUptoCardSaid : Prop := Claim7.holds Tryz.pinned (.plain (OpenSpec.upto scriptRepliesSpec)) scriptRepliesUptoCard

/-- THE SECOND FORM's CARD OF 'chartularylaw30.ScriptTexts'. -/
def scriptTextsUptoCard : Claim7 := { stood := { row := scriptTextsUptoRow, standIns := [], harness := (true, "5f881ffcf2cf04f892609c2791c8fbf33a53fc61dc7b485355293230dd683c0d"), looks := true }, kinds := [], alts := [], laidByText := true, laidKinds := [.data, .data, .data, .data, .sentinel, .sentinel, .pinned], laidTests := true, laidLooks := .later }
def ScriptTextsUptoCardSaid : Prop := Claim7.holds Tryz.pinned (.plain (OpenSpec.upto scriptTextsSpec)) scriptTextsUptoCard
end Rows
end Go.Proofs.YtdlkpmohjhjmfaaGreatDoor
