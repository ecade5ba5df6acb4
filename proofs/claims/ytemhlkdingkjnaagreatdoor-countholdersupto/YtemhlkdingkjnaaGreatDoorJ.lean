/- CountHolders: the bytes with any digest, and those of any numbers that nobody has: where what is read is of bulk at most 1048576; the card, tied: the two tables of unicode/utf8 hold what the program's text lays. -/
import Derived.Test.YtemhlkdingkjnaaGreatDoorK
set_option linter.unusedVariables false
set_option linter.unusedSimpArgs false
namespace Go.Proofs.YtemhlkdingkjnaaGreatDoor
open Go Go.Va Go.Proofs Go.ChangeShapes Go.WideShapes Go.ChangeAt Go.RowKit
theorem countHolders_goes:false=Rows.countHoldersUptoRow.goesBy Tryz.pinned.checked.prog:=by kernel_rfl
theorem countHoldersUpto:Rows.CountHoldersUptoCardSaid:=
  Claim7.holds_tied_plain_at .later [] _ _ _ _ countHoldersRow_upto (λ_ h=>by cases h) (by kernel_rfl) (λ_ h=>by cases h) countHoldersUpto_row_tie rfl ⟨rfl,rfl⟩ (by kernel_rfl) rfl countHolders_plain countHolders_goes
end Go.Proofs.YtemhlkdingkjnaaGreatDoor
