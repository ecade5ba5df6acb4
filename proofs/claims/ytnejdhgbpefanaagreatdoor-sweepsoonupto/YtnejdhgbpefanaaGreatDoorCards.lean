/-
  DERIVED. GIVEN WITH THE SEED: THE CARDS: each row of YtnejdhgbpefanaaGreatDoorRows.lean that lists a variable, with what it lists TIED to the program's text (the seventh form; the later family's looks); each row that meets fmt, with fmt's text TOLD by the authors' own Lean function (tested against real Go, not proved from fmt's source: count such statements apart). THE CARD IS WHAT COUNTS. Prove the row's statement (the work); the ties are given (YtnejdhgbpefanaaGreatDoorTie.lean); close each card by the builder's one call (the guide's Derived/Test/ToyasCard.lean, 'card_holds'). Laid BY PROGRAM, IN A SANDBOX (cutbox-door.mjs). By AI agents, Wed Nov 11 2026. No macro, syntax, notation, axiom, sorry.
-/
import Derived.Test.YtnejdhgbpefanaaGreatDoorRows
import GoSem.ClaimSeven
namespace Go.Proofs.YtnejdhgbpefanaaGreatDoor
namespace Rows

/-- THE TIED CARD OF 'chartularylaw15.MetaApplies'. -/
def metaAppliesCard : Claim7 := { stood := { row := metaAppliesRow, standIns := [], harness := (true, "4338a8c8671ea1bdab5bc90effe8db880b4674dbce69bbdf85d52a7d97f14190"), looks := false }, kinds := [], alts := [], laidByText := true, laidKinds := [.data, .pinned], laidTests := true, laidLooks := .later }
def MetaAppliesCardSaid : Prop := Claim7.holds Tryz.pinned (.plain (OpenSpec.ofChange metaAppliesSpec)) metaAppliesCard

/-- THE TIED CARD OF 'chartularylaw15.MetaGrows'. -/
def metaGrowsCard : Claim7 := { stood := { row := metaGrowsRow, standIns := [], harness := (true, "4338a8c8671ea1bdab5bc90effe8db880b4674dbce69bbdf85d52a7d97f14190"), looks := false }, kinds := [], alts := [], laidByText := true, laidKinds := [.data, .pinned], laidTests := true, laidLooks := .later }
def MetaGrowsCardSaid : Prop := Claim7.holds Tryz.pinned (.plain (OpenSpec.ofChange metaGrowsSpec)) metaGrowsCard

/-- THE TIED CARD OF 'chartularylaw15.MetaApart'. -/
def metaApartCard : Claim7 := { stood := { row := metaApartRow, standIns := [], harness := (true, "4338a8c8671ea1bdab5bc90effe8db880b4674dbce69bbdf85d52a7d97f14190"), looks := false }, kinds := [], alts := [], laidByText := true, laidKinds := [.data, .pinned], laidTests := true, laidLooks := .later }
def MetaApartCardSaid : Prop := Claim7.holds Tryz.pinned (.plain (OpenSpec.ofChange metaApartSpec)) metaApartCard

/-- THE TIED CARD OF 'chartularylaw25.SweepSteps'. -/
def sweepStepsCard : Claim7 := { stood := { row := sweepStepsRow, standIns := [], harness := (true, "4338a8c8671ea1bdab5bc90effe8db880b4674dbce69bbdf85d52a7d97f14190"), looks := false }, kinds := [], alts := [], laidByText := true, laidKinds := [.data, .pinned], laidTests := true, laidLooks := .later }
def SweepStepsCardSaid : Prop := Claim7.holds Tryz.pinned (.plain (OpenSpec.ofChange sweepStepsSpec)) sweepStepsCard

/-- THE TIED CARD OF 'chartularylaw25.SweepSoon'. -/
def sweepSoonCard : Claim7 := { stood := { row := sweepSoonRow, standIns := [], harness := (true, "4338a8c8671ea1bdab5bc90effe8db880b4674dbce69bbdf85d52a7d97f14190"), looks := false }, kinds := [], alts := [], laidByText := true, laidKinds := [.data, .pinned], laidTests := true, laidLooks := .later }
def SweepSoonCardSaid : Prop := Claim7.holds Tryz.pinned (.plain (OpenSpec.ofChange sweepSoonSpec)) sweepSoonCard

/-- THE TIED CARD OF 'chartularylaw25.SweepFew'. -/
def sweepFewCard : Claim7 := { stood := { row := sweepFewRow, standIns := [], harness := (true, "4338a8c8671ea1bdab5bc90effe8db880b4674dbce69bbdf85d52a7d97f14190"), looks := false }, kinds := [], alts := [], laidByText := true, laidKinds := [.data, .pinned], laidTests := true, laidLooks := .later }
def SweepFewCardSaid : Prop := Claim7.holds Tryz.pinned (.plain (OpenSpec.ofChange sweepFewSpec)) sweepFewCard

/-- THE TIED CARD OF 'chartularylaw15.MetaFinds'. -/
def metaFindsCard : Claim7 := { stood := { row := metaFindsRow, standIns := [], harness := (true, "4338a8c8671ea1bdab5bc90effe8db880b4674dbce69bbdf85d52a7d97f14190"), looks := false }, kinds := [], alts := [], laidByText := true, laidKinds := [.data, .pinned], laidTests := true, laidLooks := .later }
def MetaFindsCardSaid : Prop := Claim7.holds Tryz.pinned (.plain (OpenSpec.ofChange metaFindsSpec)) metaFindsCard

/-- THE TIED CARD OF 'chartularylaw16.CountUses'. -/
def countUsesCard : Claim7 := { stood := { row := countUsesRow, standIns := [], harness := (true, "4338a8c8671ea1bdab5bc90effe8db880b4674dbce69bbdf85d52a7d97f14190"), looks := false }, kinds := [], alts := [], laidByText := true, laidKinds := [.data, .pinned], laidTests := true, laidLooks := .later }
def CountUsesCardSaid : Prop := Claim7.holds Tryz.pinned (.plain (OpenSpec.ofChange countUsesSpec)) countUsesCard

/-- THE TIED CARD OF 'chartularylaw16.CountAgrees'. -/
def countAgreesCard : Claim7 := { stood := { row := countAgreesRow, standIns := [], harness := (true, "4338a8c8671ea1bdab5bc90effe8db880b4674dbce69bbdf85d52a7d97f14190"), looks := false }, kinds := [], alts := [], laidByText := true, laidKinds := [.data, .pinned], laidTests := true, laidLooks := .later }
def CountAgreesCardSaid : Prop := Claim7.holds Tryz.pinned (.plain (OpenSpec.ofChange countAgreesSpec)) countAgreesCard

/-- THE TIED CARD OF 'chartularylaw16.CountHolders'. -/
def countHoldersCard : Claim7 := { stood := { row := countHoldersRow, standIns := [], harness := (true, "4338a8c8671ea1bdab5bc90effe8db880b4674dbce69bbdf85d52a7d97f14190"), looks := false }, kinds := [], alts := [], laidByText := true, laidKinds := [.data, .pinned], laidTests := true, laidLooks := .later }
def CountHoldersCardSaid : Prop := Claim7.holds Tryz.pinned (.plain (OpenSpec.ofChange countHoldersSpec)) countHoldersCard

/-- THE TIED CARD OF 'chartularylaw16.CountOwn'. -/
def countOwnCard : Claim7 := { stood := { row := countOwnRow, standIns := [], harness := (true, "4338a8c8671ea1bdab5bc90effe8db880b4674dbce69bbdf85d52a7d97f14190"), looks := false }, kinds := [], alts := [], laidByText := true, laidKinds := [.data, .pinned], laidTests := true, laidLooks := .later }
def CountOwnCardSaid : Prop := Claim7.holds Tryz.pinned (.plain (OpenSpec.ofChange countOwnSpec)) countOwnCard

/-- THE SECOND FORM's CARD OF 'chartularylaw15.MetaApplies'. -/
def metaAppliesUptoCard : Claim7 := { stood := { row := metaAppliesUptoRow, standIns := [], harness := (true, "4338a8c8671ea1bdab5bc90effe8db880b4674dbce69bbdf85d52a7d97f14190"), looks := false }, kinds := [], alts := [], laidByText := true, laidKinds := [.data, .pinned], laidTests := true, laidLooks := .later }
def MetaAppliesUptoCardSaid : Prop := Claim7.holds Tryz.pinned (.plain (OpenSpec.upto metaAppliesSpec)) metaAppliesUptoCard

/-- THE SECOND FORM's CARD OF 'chartularylaw15.MetaGrows'. -/
def metaGrowsUptoCard : Claim7 := { stood := { row := metaGrowsUptoRow, standIns := [], harness := (true, "4338a8c8671ea1bdab5bc90effe8db880b4674dbce69bbdf85d52a7d97f14190"), looks := false }, kinds := [], alts := [], laidByText := true, laidKinds := [.data, .pinned], laidTests := true, laidLooks := .later }
def MetaGrowsUptoCardSaid : Prop := Claim7.holds Tryz.pinned (.plain (OpenSpec.upto metaGrowsSpec)) metaGrowsUptoCard

/-- THE SECOND FORM's CARD OF 'chartularylaw15.MetaApart'. -/
def metaApartUptoCard : Claim7 := { stood := { row := metaApartUptoRow, standIns := [], harness := (true, "4338a8c8671ea1bdab5bc90effe8db880b4674dbce69bbdf85d52a7d97f14190"), looks := false }, kinds := [], alts := [], laidByText := true, laidKinds := [.data, .pinned], laidTests := true, laidLooks := .later }
def MetaApartUptoCardSaid : Prop := Claim7.holds Tryz.pinned (.plain (OpenSpec.upto metaApartSpec)) metaApartUptoCard

/-- THE SECOND FORM's CARD OF 'chartularylaw25.SweepSteps'. -/
def sweepStepsUptoCard : Claim7 := { stood := { row := sweepStepsUptoRow, standIns := [], harness := (true, "4338a8c8671ea1bdab5bc90effe8db880b4674dbce69bbdf85d52a7d97f14190"), looks := false }, kinds := [], alts := [], laidByText := true, laidKinds := [.data, .pinned], laidTests := true, laidLooks := .later }
def SweepStepsUptoCardSaid : Prop := Claim7.holds Tryz.pinned (.plain (OpenSpec.upto sweepStepsSpec)) sweepStepsUptoCard

/-- THE SECOND FORM's CARD OF 'chartularylaw25.SweepSoon'. -/
def sweepSoonUptoCard : Claim7 := { stood := { row := sweepSoonUptoRow, standIns := [], harness := (true, "4338a8c8671ea1bdab5bc90effe8db880b4674dbce69bbdf85d52a7d97f14190"), looks := false }, kinds := [], alts := [], laidByText := true, laidKinds := [.data, .pinned], laidTests := true, laidLooks := .later }
def SweepSoonUptoCardSaid : Prop := Claim7.holds Tryz.pinned (.plain (OpenSpec.upto sweepSoonSpec)) sweepSoonUptoCard

/-- THE SECOND FORM's CARD OF 'chartularylaw25.SweepFew'. -/
def sweepFewUptoCard : Claim7 := { stood := { row := sweepFewUptoRow, standIns := [], harness := (true, "4338a8c8671ea1bdab5bc90effe8db880b4674dbce69bbdf85d52a7d97f14190"), looks := false }, kinds := [], alts := [], laidByText := true, laidKinds := [.data, .pinned], laidTests := true, laidLooks := .later }
def SweepFewUptoCardSaid : Prop := Claim7.holds Tryz.pinned (.plain (OpenSpec.upto sweepFewSpec)) sweepFewUptoCard

/-- THE SECOND FORM's CARD OF 'chartularylaw15.MetaFinds'. -/
def metaFindsUptoCard : Claim7 := { stood := { row := metaFindsUptoRow, standIns := [], harness := (true, "4338a8c8671ea1bdab5bc90effe8db880b4674dbce69bbdf85d52a7d97f14190"), looks := false }, kinds := [], alts := [], laidByText := true, laidKinds := [.data, .pinned], laidTests := true, laidLooks := .later }
def MetaFindsUptoCardSaid : Prop := Claim7.holds Tryz.pinned (.plain (OpenSpec.upto metaFindsSpec)) metaFindsUptoCard

/-- THE SECOND FORM's CARD OF 'chartularylaw16.CountUses'. -/
def countUsesUptoCard : Claim7 := { stood := { row := countUsesUptoRow, standIns := [], harness := (true, "4338a8c8671ea1bdab5bc90effe8db880b4674dbce69bbdf85d52a7d97f14190"), looks := false }, kinds := [], alts := [], laidByText := true, laidKinds := [.data, .pinned], laidTests := true, laidLooks := .later }
def CountUsesUptoCardSaid : Prop := Claim7.holds Tryz.pinned (.plain (OpenSpec.upto countUsesSpec)) countUsesUptoCard

/-- THE SECOND FORM's CARD OF 'chartularylaw16.CountAgrees'. -/
def countAgreesUptoCard : Claim7 := { stood := { row := countAgreesUptoRow, standIns := [], harness := (true, "4338a8c8671ea1bdab5bc90effe8db880b4674dbce69bbdf85d52a7d97f14190"), looks := false }, kinds := [], alts := [], laidByText := true, laidKinds := [.data, .pinned], laidTests := true, laidLooks := .later }
def CountAgreesUptoCardSaid : Prop := Claim7.holds Tryz.pinned (.plain (OpenSpec.upto countAgreesSpec)) countAgreesUptoCard

/-- THE SECOND FORM's CARD OF 'chartularylaw16.CountHolders'. -/
def countHoldersUptoCard : Claim7 := { stood := { row := countHoldersUptoRow, standIns := [], harness := (true, "4338a8c8671ea1bdab5bc90effe8db880b4674dbce69bbdf85d52a7d97f14190"), looks := false }, kinds := [], alts := [], laidByText := true, laidKinds := [.data, .pinned], laidTests := true, laidLooks := .later }
def CountHoldersUptoCardSaid : Prop := Claim7.holds Tryz.pinned (.plain (OpenSpec.upto countHoldersSpec)) countHoldersUptoCard

/-- THE SECOND FORM's CARD OF 'chartularylaw16.CountOwn'. -/
def countOwnUptoCard : Claim7 := { stood := { row := countOwnUptoRow, standIns := [], harness := (true, "4338a8c8671ea1bdab5bc90effe8db880b4674dbce69bbdf85d52a7d97f14190"), looks := false }, kinds := [], alts := [], laidByText := true, laidKinds := [.data, .pinned], laidTests := true, laidLooks := .later }
def CountOwnUptoCardSaid : Prop := Claim7.holds Tryz.pinned (.plain (OpenSpec.upto countOwnSpec)) countOwnUptoCard
end Rows
end Go.Proofs.YtnejdhgbpefanaaGreatDoor
