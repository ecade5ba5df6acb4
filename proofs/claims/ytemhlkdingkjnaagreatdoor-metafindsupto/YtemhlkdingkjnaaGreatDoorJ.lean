/- MetaFinds: any bucket, object and version of any state; where all versions are: where what is read is of bulk at most 1048576; the card, tied: the two tables of unicode/utf8 hold what the program's text lays. -/
import Derived.Test.YtemhlkdingkjnaaGreatDoorK
set_option linter.unusedVariables false
set_option linter.unusedSimpArgs false
namespace Go.Proofs.YtemhlkdingkjnaaGreatDoor
open Go Go.Va Go.Proofs Go.ChangeShapes Go.WideShapes Go.ChangeAt Go.RowKit
theorem metaFinds_goes:false=Rows.metaFindsUptoRow.goesBy Tryz.pinned.checked.prog:=by kernel_rfl
theorem metaFindsUpto:Rows.MetaFindsUptoCardSaid:=
  Claim7.holds_tied_plain_at .later [] _ _ _ _ metaFindsRow_upto (λ_ h=>by cases h) (by kernel_rfl) (λ_ h=>by cases h) metaFindsUpto_row_tie rfl ⟨rfl,rfl⟩ (by kernel_rfl) rfl metaFinds_plain metaFinds_goes
end Go.Proofs.YtemhlkdingkjnaaGreatDoor
