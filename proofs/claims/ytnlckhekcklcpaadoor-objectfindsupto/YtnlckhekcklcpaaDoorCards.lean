/-
  DERIVED. GIVEN WITH THE SEED: THE CARDS: each row of YtnlckhekcklcpaaDoorRows.lean that lists a variable, with what it lists TIED to the program's text (the seventh form; the later family's looks); each row that meets fmt, with fmt's text TOLD by the authors' own Lean function (tested against real Go, not proved from fmt's source: count such statements apart). THE CARD IS WHAT COUNTS. Prove the row's statement (the work); the ties are given (YtnlckhekcklcpaaDoorTie.lean); close each card by the builder's one call (the guide's Derived/Test/ToyasCard.lean, 'card_holds'). Laid BY PROGRAM, IN A SANDBOX (cutbox-door.mjs). By AI agents, Wed Nov 11 2026. No macro, syntax, notation, axiom, sorry.
-/
import Derived.Test.YtnlckhekcklcpaaDoorRows
import GoSem.ClaimSeven
namespace Go.Proofs.YtnlckhekcklcpaaDoor
namespace Rows

/-- THE TIED CARD OF 'chartularylaw13.ObjectAdds'. -/
def objectAddsCard : Claim7 := { stood := { row := objectAddsRow, standIns := [], harness := (true, "aa70b5bf7a2df2a9bda58d6b4be35e2cb3eabc9aeb0671ff370c3e9aa59cd5e6"), looks := false }, kinds := [], alts := [], laidByText := true, laidKinds := [.data, .pinned], laidTests := true, laidLooks := .later }
def ObjectAddsCardSaid : Prop := Claim7.holds Tryd.pinned (.plain (OpenSpec.ofChange objectAddsSpec)) objectAddsCard

/-- THE TIED CARD OF 'chartularylaw13.ObjectFinds'. -/
def objectFindsCard : Claim7 := { stood := { row := objectFindsRow, standIns := [], harness := (true, "aa70b5bf7a2df2a9bda58d6b4be35e2cb3eabc9aeb0671ff370c3e9aa59cd5e6"), looks := false }, kinds := [], alts := [], laidByText := true, laidKinds := [.data, .pinned], laidTests := true, laidLooks := .later }
def ObjectFindsCardSaid : Prop := Claim7.holds Tryd.pinned (.plain (OpenSpec.ofChange objectFindsSpec)) objectFindsCard

/-- THE TIED CARD OF 'chartularylaw13.ObjectGood'. -/
def objectGoodCard : Claim7 := { stood := { row := objectGoodRow, standIns := [], harness := (true, "aa70b5bf7a2df2a9bda58d6b4be35e2cb3eabc9aeb0671ff370c3e9aa59cd5e6"), looks := false }, kinds := [], alts := [], laidByText := true, laidKinds := [.data, .pinned], laidTests := true, laidLooks := .later }
def ObjectGoodCardSaid : Prop := Claim7.holds Tryd.pinned (.plain (OpenSpec.ofChange objectGoodSpec)) objectGoodCard

/-- THE TIED CARD OF 'chartularylaw13.ObjectChanges'. -/
def objectChangesCard : Claim7 := { stood := { row := objectChangesRow, standIns := [], harness := (true, "aa70b5bf7a2df2a9bda58d6b4be35e2cb3eabc9aeb0671ff370c3e9aa59cd5e6"), looks := false }, kinds := [], alts := [], laidByText := true, laidKinds := [.data, .pinned], laidTests := true, laidLooks := .later }
def ObjectChangesCardSaid : Prop := Claim7.holds Tryd.pinned (.plain (OpenSpec.ofChange objectChangesSpec)) objectChangesCard

/-- THE TIED CARD OF 'chartularylaw13.ObjectBack'. -/
def objectBackCard : Claim7 := { stood := { row := objectBackRow, standIns := [], harness := (true, "aa70b5bf7a2df2a9bda58d6b4be35e2cb3eabc9aeb0671ff370c3e9aa59cd5e6"), looks := false }, kinds := [], alts := [], laidByText := true, laidKinds := [.data, .pinned], laidTests := true, laidLooks := .later }
def ObjectBackCardSaid : Prop := Claim7.holds Tryd.pinned (.plain (OpenSpec.ofChange objectBackSpec)) objectBackCard

/-- THE SECOND FORM's CARD OF 'chartularylaw13.ObjectAdds'. -/
def objectAddsUptoCard : Claim7 := { stood := { row := objectAddsUptoRow, standIns := [], harness := (true, "aa70b5bf7a2df2a9bda58d6b4be35e2cb3eabc9aeb0671ff370c3e9aa59cd5e6"), looks := false }, kinds := [], alts := [], laidByText := true, laidKinds := [.data, .pinned], laidTests := true, laidLooks := .later }
def ObjectAddsUptoCardSaid : Prop := Claim7.holds Tryd.pinned (.plain (OpenSpec.upto objectAddsSpec)) objectAddsUptoCard

/-- THE SECOND FORM's CARD OF 'chartularylaw13.ObjectFinds'. -/
def objectFindsUptoCard : Claim7 := { stood := { row := objectFindsUptoRow, standIns := [], harness := (true, "aa70b5bf7a2df2a9bda58d6b4be35e2cb3eabc9aeb0671ff370c3e9aa59cd5e6"), looks := false }, kinds := [], alts := [], laidByText := true, laidKinds := [.data, .pinned], laidTests := true, laidLooks := .later }
def ObjectFindsUptoCardSaid : Prop := Claim7.holds Tryd.pinned (.plain (OpenSpec.upto objectFindsSpec)) objectFindsUptoCard

/-- THE SECOND FORM's CARD OF 'chartularylaw13.ObjectGood'. -/
def objectGoodUptoCard : Claim7 := { stood := { row := objectGoodUptoRow, standIns := [], harness := (true, "aa70b5bf7a2df2a9bda58d6b4be35e2cb3eabc9aeb0671ff370c3e9aa59cd5e6"), looks := false }, kinds := [], alts := [], laidByText := true, laidKinds := [.data, .pinned], laidTests := true, laidLooks := .later }
def ObjectGoodUptoCardSaid : Prop := Claim7.holds Tryd.pinned (.plain (OpenSpec.upto objectGoodSpec)) objectGoodUptoCard

/-- THE SECOND FORM's CARD OF 'chartularylaw13.ObjectChanges'. -/
def objectChangesUptoCard : Claim7 := { stood := { row := objectChangesUptoRow, standIns := [], harness := (true, "aa70b5bf7a2df2a9bda58d6b4be35e2cb3eabc9aeb0671ff370c3e9aa59cd5e6"), looks := false }, kinds := [], alts := [], laidByText := true, laidKinds := [.data, .pinned], laidTests := true, laidLooks := .later }
def ObjectChangesUptoCardSaid : Prop := Claim7.holds Tryd.pinned (.plain (OpenSpec.upto objectChangesSpec)) objectChangesUptoCard

/-- THE SECOND FORM's CARD OF 'chartularylaw13.ObjectBack'. -/
def objectBackUptoCard : Claim7 := { stood := { row := objectBackUptoRow, standIns := [], harness := (true, "aa70b5bf7a2df2a9bda58d6b4be35e2cb3eabc9aeb0671ff370c3e9aa59cd5e6"), looks := false }, kinds := [], alts := [], laidByText := true, laidKinds := [.data, .pinned], laidTests := true, laidLooks := .later }
def ObjectBackUptoCardSaid : Prop := Claim7.holds Tryd.pinned (.plain (OpenSpec.upto objectBackSpec)) objectBackUptoCard
end Rows
end Go.Proofs.YtnlckhekcklcpaaDoor
