/-
  DERIVED. GIVEN WITH THE SEED: THE CARDS: each row of YtdlgambebmchmaaGreatDoorRows.lean that lists a variable, with what it lists TIED to the program's text (the seventh form; the later family's looks); each row that meets fmt, with fmt's text TOLD by the authors' own Lean function (tested against real Go, not proved from fmt's source: count such statements apart). THE CARD IS WHAT COUNTS. Prove the row's statement (the work); the ties are given (YtdlgambebmchmaaGreatDoorTie.lean); close each card by the builder's one call (the guide's Derived/Test/ToyasCard.lean, 'card_holds'). Laid BY PROGRAM, IN A SANDBOX (cutbox-door.mjs). By AI agents, Wed Nov 11 2026. No macro, syntax, notation, axiom, sorry.
-/
import Derived.Test.YtdlgambebmchmaaGreatDoorRows
import GoSem.ClaimSeven
namespace Go.Proofs.YtdlgambebmchmaaGreatDoor
namespace Rows

/-- THE TIED CARD OF 'chartularylaw15.MetaApplies'. -/
def metaAppliesCard : Claim7 := { stood := { row := metaAppliesRow, standIns := [], harness := (true, "a2912578629b7fac721631efafd3933d89a3fe78f9bc57fb6c66db1e39dda2e1"), looks := false }, kinds := [], alts := [], laidByText := true, laidKinds := [.data, .pinned], laidTests := true, laidLooks := .later }
def MetaAppliesCardSaid : Prop := Claim7.holds Tryz.pinned (.plain (OpenSpec.ofChange metaAppliesSpec)) metaAppliesCard

/-- THE TIED CARD OF 'chartularylaw15.MetaGrows'. -/
def metaGrowsCard : Claim7 := { stood := { row := metaGrowsRow, standIns := [], harness := (true, "a2912578629b7fac721631efafd3933d89a3fe78f9bc57fb6c66db1e39dda2e1"), looks := false }, kinds := [], alts := [], laidByText := true, laidKinds := [.data, .pinned], laidTests := true, laidLooks := .later }
def MetaGrowsCardSaid : Prop := Claim7.holds Tryz.pinned (.plain (OpenSpec.ofChange metaGrowsSpec)) metaGrowsCard

/-- THE TIED CARD OF 'chartularylaw15.MetaApart'. -/
def metaApartCard : Claim7 := { stood := { row := metaApartRow, standIns := [], harness := (true, "a2912578629b7fac721631efafd3933d89a3fe78f9bc57fb6c66db1e39dda2e1"), looks := false }, kinds := [], alts := [], laidByText := true, laidKinds := [.data, .pinned], laidTests := true, laidLooks := .later }
def MetaApartCardSaid : Prop := Claim7.holds Tryz.pinned (.plain (OpenSpec.ofChange metaApartSpec)) metaApartCard

/-- THE TIED CARD OF 'chartularylaw15.MetaSame'. -/
def metaSameCard : Claim7 := { stood := { row := metaSameRow, standIns := [], harness := (true, "a2912578629b7fac721631efafd3933d89a3fe78f9bc57fb6c66db1e39dda2e1"), looks := false }, kinds := [], alts := [], laidByText := true, laidKinds := [.data, .pinned], laidTests := true, laidLooks := .later }
def MetaSameCardSaid : Prop := Claim7.holds Tryz.pinned (.plain (OpenSpec.ofChange metaSameSpec)) metaSameCard

/-- THE TIED CARD OF 'chartularylaw15.MetaFinds'. -/
def metaFindsCard : Claim7 := { stood := { row := metaFindsRow, standIns := [], harness := (true, "a2912578629b7fac721631efafd3933d89a3fe78f9bc57fb6c66db1e39dda2e1"), looks := false }, kinds := [], alts := [], laidByText := true, laidKinds := [.data, .pinned], laidTests := true, laidLooks := .later }
def MetaFindsCardSaid : Prop := Claim7.holds Tryz.pinned (.plain (OpenSpec.ofChange metaFindsSpec)) metaFindsCard

/-- THE SECOND FORM's CARD OF 'chartularylaw15.MetaApplies'. -/
def metaAppliesUptoCard : Claim7 := { stood := { row := metaAppliesUptoRow, standIns := [], harness := (true, "a2912578629b7fac721631efafd3933d89a3fe78f9bc57fb6c66db1e39dda2e1"), looks := false }, kinds := [], alts := [], laidByText := true, laidKinds := [.data, .pinned], laidTests := true, laidLooks := .later }
def MetaAppliesUptoCardSaid : Prop := Claim7.holds Tryz.pinned (.plain (OpenSpec.upto metaAppliesSpec)) metaAppliesUptoCard

/-- THE SECOND FORM's CARD OF 'chartularylaw15.MetaGrows'. -/
def metaGrowsUptoCard : Claim7 := { stood := { row := metaGrowsUptoRow, standIns := [], harness := (true, "a2912578629b7fac721631efafd3933d89a3fe78f9bc57fb6c66db1e39dda2e1"), looks := false }, kinds := [], alts := [], laidByText := true, laidKinds := [.data, .pinned], laidTests := true, laidLooks := .later }
def MetaGrowsUptoCardSaid : Prop := Claim7.holds Tryz.pinned (.plain (OpenSpec.upto metaGrowsSpec)) metaGrowsUptoCard

/-- THE SECOND FORM's CARD OF 'chartularylaw15.MetaApart'. -/
def metaApartUptoCard : Claim7 := { stood := { row := metaApartUptoRow, standIns := [], harness := (true, "a2912578629b7fac721631efafd3933d89a3fe78f9bc57fb6c66db1e39dda2e1"), looks := false }, kinds := [], alts := [], laidByText := true, laidKinds := [.data, .pinned], laidTests := true, laidLooks := .later }
def MetaApartUptoCardSaid : Prop := Claim7.holds Tryz.pinned (.plain (OpenSpec.upto metaApartSpec)) metaApartUptoCard

/-- THE SECOND FORM's CARD OF 'chartularylaw15.MetaSame'. -/
def metaSameUptoCard : Claim7 := { stood := { row := metaSameUptoRow, standIns := [], harness := (true, "a2912578629b7fac721631efafd3933d89a3fe78f9bc57fb6c66db1e39dda2e1"), looks := false }, kinds := [], alts := [], laidByText := true, laidKinds := [.data, .pinned], laidTests := true, laidLooks := .later }
def MetaSameUptoCardSaid : Prop := Claim7.holds Tryz.pinned (.plain (OpenSpec.upto metaSameSpec)) metaSameUptoCard

/-- THE SECOND FORM's CARD OF 'chartularylaw15.MetaFinds'. -/
def metaFindsUptoCard : Claim7 := { stood := { row := metaFindsUptoRow, standIns := [], harness := (true, "a2912578629b7fac721631efafd3933d89a3fe78f9bc57fb6c66db1e39dda2e1"), looks := false }, kinds := [], alts := [], laidByText := true, laidKinds := [.data, .pinned], laidTests := true, laidLooks := .later }
def MetaFindsUptoCardSaid : Prop := Claim7.holds Tryz.pinned (.plain (OpenSpec.upto metaFindsSpec)) metaFindsUptoCard
end Rows
end Go.Proofs.YtdlgambebmchmaaGreatDoor
