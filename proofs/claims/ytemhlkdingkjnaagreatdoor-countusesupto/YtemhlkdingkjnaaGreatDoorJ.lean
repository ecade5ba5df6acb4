/- CountUses: who has which bytes, of any state, and how many these are together: where what is read is of bulk at most 1048576; the card, tied: the two tables of unicode/utf8 hold what the program's text lays. -/
import Derived.Test.YtemhlkdingkjnaaGreatDoorK
set_option linter.unusedVariables false
set_option linter.unusedSimpArgs false
namespace Go.Proofs.YtemhlkdingkjnaaGreatDoor
open Go Go.Va Go.Proofs Go.ChangeShapes Go.WideShapes Go.ChangeAt Go.RowKit
theorem countUses_goes:false=Rows.countUsesUptoRow.goesBy Tryz.pinned.checked.prog:=by kernel_rfl
theorem countUsesUpto:Rows.CountUsesUptoCardSaid:=
  Claim7.holds_tied_plain_at .later [] _ _ _ _ countUsesRow_upto (λ_ h=>by cases h) (by kernel_rfl) (λ_ h=>by cases h) countUsesUpto_row_tie rfl ⟨rfl,rfl⟩ (by kernel_rfl) rfl countUses_plain countUses_goes
end Go.Proofs.YtemhlkdingkjnaaGreatDoor
