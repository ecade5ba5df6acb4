/-
  DERIVED. GIVEN WITH THE SEED: THE CARDS: each row of YtemhlkdingkjnaaGreatDoorRows.lean that lists a variable, with what it lists TIED to the program's text (the seventh form; the later family's looks); each row that meets fmt, with fmt's text TOLD by the authors' own Lean function (tested against real Go, not proved from fmt's source: count such statements apart). THE CARD IS WHAT COUNTS. Prove the row's statement (the work); the ties are given (YtemhlkdingkjnaaGreatDoorTie.lean); close each card by the builder's one call (the guide's Derived/Test/ToyasCard.lean, 'card_holds'). Laid BY PROGRAM, IN A SANDBOX (cutbox-door.mjs). By AI agents, Wed Nov 11 2026. No macro, syntax, notation, axiom, sorry.
-/
import Derived.Test.YtemhlkdingkjnaaGreatDoorRows
import GoSem.ClaimSeven
namespace Go.Proofs.YtemhlkdingkjnaaGreatDoor
namespace Rows

/-- THE TIED CARD OF 'chartularylaw15.MetaFinds'. -/
def metaFindsCard : Claim7 := { stood := { row := metaFindsRow, standIns := [], harness := (true, "92297230e8a411246a18555704980e024dd78249cbbf7e447ea95c830ae114c1"), looks := false }, kinds := [], alts := [], laidByText := true, laidKinds := [.data, .pinned], laidTests := true, laidLooks := .later }
def MetaFindsCardSaid : Prop := Claim7.holds Tryz.pinned (.plain (OpenSpec.ofChange metaFindsSpec)) metaFindsCard

/-- THE TIED CARD OF 'chartularylaw16.CountUses'. -/
def countUsesCard : Claim7 := { stood := { row := countUsesRow, standIns := [], harness := (true, "92297230e8a411246a18555704980e024dd78249cbbf7e447ea95c830ae114c1"), looks := false }, kinds := [], alts := [], laidByText := true, laidKinds := [.data, .pinned], laidTests := true, laidLooks := .later }
def CountUsesCardSaid : Prop := Claim7.holds Tryz.pinned (.plain (OpenSpec.ofChange countUsesSpec)) countUsesCard

/-- THE TIED CARD OF 'chartularylaw16.CountHolders'. -/
def countHoldersCard : Claim7 := { stood := { row := countHoldersRow, standIns := [], harness := (true, "92297230e8a411246a18555704980e024dd78249cbbf7e447ea95c830ae114c1"), looks := false }, kinds := [], alts := [], laidByText := true, laidKinds := [.data, .pinned], laidTests := true, laidLooks := .later }
def CountHoldersCardSaid : Prop := Claim7.holds Tryz.pinned (.plain (OpenSpec.ofChange countHoldersSpec)) countHoldersCard

/-- THE TIED CARD OF 'chartularylaw16.CountOwn'. -/
def countOwnCard : Claim7 := { stood := { row := countOwnRow, standIns := [], harness := (true, "92297230e8a411246a18555704980e024dd78249cbbf7e447ea95c830ae114c1"), looks := false }, kinds := [], alts := [], laidByText := true, laidKinds := [.data, .pinned], laidTests := true, laidLooks := .later }
def CountOwnCardSaid : Prop := Claim7.holds Tryz.pinned (.plain (OpenSpec.ofChange countOwnSpec)) countOwnCard

/-- THE SECOND FORM's CARD OF 'chartularylaw15.MetaFinds'. -/
def metaFindsUptoCard : Claim7 := { stood := { row := metaFindsUptoRow, standIns := [], harness := (true, "92297230e8a411246a18555704980e024dd78249cbbf7e447ea95c830ae114c1"), looks := false }, kinds := [], alts := [], laidByText := true, laidKinds := [.data, .pinned], laidTests := true, laidLooks := .later }
def MetaFindsUptoCardSaid : Prop := Claim7.holds Tryz.pinned (.plain (OpenSpec.upto metaFindsSpec)) metaFindsUptoCard

/-- THE SECOND FORM's CARD OF 'chartularylaw16.CountUses'. -/
def countUsesUptoCard : Claim7 := { stood := { row := countUsesUptoRow, standIns := [], harness := (true, "92297230e8a411246a18555704980e024dd78249cbbf7e447ea95c830ae114c1"), looks := false }, kinds := [], alts := [], laidByText := true, laidKinds := [.data, .pinned], laidTests := true, laidLooks := .later }
def CountUsesUptoCardSaid : Prop := Claim7.holds Tryz.pinned (.plain (OpenSpec.upto countUsesSpec)) countUsesUptoCard

/-- THE SECOND FORM's CARD OF 'chartularylaw16.CountHolders'. -/
def countHoldersUptoCard : Claim7 := { stood := { row := countHoldersUptoRow, standIns := [], harness := (true, "92297230e8a411246a18555704980e024dd78249cbbf7e447ea95c830ae114c1"), looks := false }, kinds := [], alts := [], laidByText := true, laidKinds := [.data, .pinned], laidTests := true, laidLooks := .later }
def CountHoldersUptoCardSaid : Prop := Claim7.holds Tryz.pinned (.plain (OpenSpec.upto countHoldersSpec)) countHoldersUptoCard

/-- THE SECOND FORM's CARD OF 'chartularylaw16.CountOwn'. -/
def countOwnUptoCard : Claim7 := { stood := { row := countOwnUptoRow, standIns := [], harness := (true, "92297230e8a411246a18555704980e024dd78249cbbf7e447ea95c830ae114c1"), looks := false }, kinds := [], alts := [], laidByText := true, laidKinds := [.data, .pinned], laidTests := true, laidLooks := .later }
def CountOwnUptoCardSaid : Prop := Claim7.holds Tryz.pinned (.plain (OpenSpec.upto countOwnSpec)) countOwnUptoCard
end Rows
end Go.Proofs.YtemhlkdingkjnaaGreatDoor
