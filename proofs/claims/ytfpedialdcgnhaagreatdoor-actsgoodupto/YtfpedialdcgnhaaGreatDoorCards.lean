/-
  DERIVED. GIVEN WITH THE SEED: THE CARDS: each row of YtfpedialdcgnhaaGreatDoorRows.lean that lists a variable, with what it lists TIED to the program's text (the seventh form; the later family's looks); each row that meets fmt, with fmt's text TOLD by the authors' own Lean function (tested against real Go, not proved from fmt's source: count such statements apart). THE CARD IS WHAT COUNTS. Prove the row's statement (the work); the ties are given (YtfpedialdcgnhaaGreatDoorTie.lean); close each card by the builder's one call (the guide's Derived/Test/ToyasCard.lean, 'card_holds'). Laid BY PROGRAM, IN A SANDBOX (cutbox-door.mjs). By AI agents, Wed Nov 11 2026. No macro, syntax, notation, axiom, sorry.
-/
import Derived.Test.YtfpedialdcgnhaaGreatDoorRows
import GoSem.ClaimSeven
namespace Go.Proofs.YtfpedialdcgnhaaGreatDoor
namespace Rows

/-- THE TIED CARD OF 'chartularylaw24.ActsGood'. -/
def actsGoodCard : Claim7 := { stood := { row := actsGoodRow, standIns := [], harness := (true, "47086d0c5447e1b449667bc2b3aae308a378dc9b682f310f4c7a67d424374f69"), looks := false }, kinds := [], alts := [], laidByText := true, laidKinds := [.data, .pinned], laidTests := true, laidLooks := .later }
def ActsGoodCardSaid : Prop := Claim7.holds Tryz.pinned (.plain (OpenSpec.ofChange actsGoodSpec)) actsGoodCard

/-- THE SECOND FORM's CARD OF 'chartularylaw24.ActsGood'. -/
def actsGoodUptoCard : Claim7 := { stood := { row := actsGoodUptoRow, standIns := [], harness := (true, "47086d0c5447e1b449667bc2b3aae308a378dc9b682f310f4c7a67d424374f69"), looks := false }, kinds := [], alts := [], laidByText := true, laidKinds := [.data, .pinned], laidTests := true, laidLooks := .later }
def ActsGoodUptoCardSaid : Prop := Claim7.holds Tryz.pinned (.plain (OpenSpec.upto actsGoodSpec)) actsGoodUptoCard
end Rows
end Go.Proofs.YtfpedialdcgnhaaGreatDoor
