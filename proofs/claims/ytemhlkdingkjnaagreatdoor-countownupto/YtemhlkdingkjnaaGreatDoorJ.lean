/- CountOwn: nobody's bytes are above the state's numbers; what is held by a digest is no orphan: where what is read is of bulk at most 1048576; the card, tied: the two tables of unicode/utf8 hold what the program's text lays. -/
import Derived.Test.YtemhlkdingkjnaaGreatDoorK
set_option linter.unusedVariables false
set_option linter.unusedSimpArgs false
namespace Go.Proofs.YtemhlkdingkjnaaGreatDoor
open Go Go.Va Go.Proofs Go.ChangeShapes Go.WideShapes Go.ChangeAt Go.RowKit
theorem countOwn_goes:false=Rows.countOwnUptoRow.goesBy Tryz.pinned.checked.prog:=by kernel_rfl
theorem countOwnUpto:Rows.CountOwnUptoCardSaid:=
  Claim7.holds_tied_plain_at .later [] _ _ _ _ countOwnRow_upto (λ_ h=>by cases h) (by kernel_rfl) (λ_ h=>by cases h) countOwnUpto_row_tie rfl ⟨rfl,rfl⟩ (by kernel_rfl) rfl countOwn_plain countOwn_goes
end Go.Proofs.YtemhlkdingkjnaaGreatDoor
