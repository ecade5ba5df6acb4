/- SweepSoon: when rules do something to any state first: where what is read is of bulk at most 1048576; the card, tied: the two tables of unicode/utf8 hold what the program's text lays. -/
import Derived.Test.YtnejdhgbpefanaaGreatDoorK
set_option linter.unusedVariables false
set_option linter.unusedSimpArgs false
namespace Go.Proofs.YtnejdhgbpefanaaGreatDoor
open Go Go.Va Go.Proofs Go.ChangeShapes Go.WideShapes Go.ChangeAt Go.RowKit
theorem sweepSoon_goes:false=Rows.sweepSoonUptoRow.goesBy Tryz.pinned.checked.prog:=by kernel_rfl
theorem sweepSoonUpto:Rows.SweepSoonUptoCardSaid:=
  Claim7.holds_tied_plain_at .later [] _ _ _ _ sweepSoonRow_upto (λ_ h=>by cases h) (by kernel_rfl) (λ_ h=>by cases h) sweepSoonUpto_row_tie rfl ⟨rfl,rfl⟩ (by kernel_rfl) rfl sweepSoon_plain sweepSoon_goes
end Go.Proofs.YtnejdhgbpefanaaGreatDoor
