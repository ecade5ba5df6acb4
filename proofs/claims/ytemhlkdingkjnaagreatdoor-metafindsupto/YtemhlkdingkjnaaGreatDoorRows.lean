/-
  NARROWER THAN 'FOR EVERY INPUT', by the rows' own cells (each row's printed sentence says how): MetaFinds: laid · CountUses: laid · CountHolders: laid · CountOwn: laid.
  DERIVED. THE GIVEN ROWS OF THIS SEAT. 4 by the template 'for every input the law returns true; each argument reads behind the call as it read before'; 0 by the template 'total and deterministic' (their statements: YtemhlkdingkjnaaGreatDoorTotals.lean).
  GIVEN WITH THE SEED: the statements are not yours to turn. If you find one false, say at which input.
  Laid BY PROGRAM, IN A SANDBOX (cutbox-rows.mjs): the forced cells as the released guide's own fill.sh prints them over the translation 00f87f82c1212a8c… (all of the seat's roots in one cut). By AI agents, Wed Nov 11 2026. No macro, syntax, notation, axiom, sorry.
-/
import Derived.Test.YtemhlkdingkjnaaGreatDoorChecked
import GoSem.PinnedTables
import GoSem.Claim
import GoSem.ClaimJoined
import GoSem.ClaimMapViews
import Derived.JoinedTies
import Derived.KernelRfl
namespace Go.Proofs.YtemhlkdingkjnaaGreatDoor
/- THE CELL 'sum', in the pinned program and in every row, IS THE sha256 OF THE DUMP (.gsa) THAT YtemhlkdingkjnaaGreatDoorProg.lean LOADS. Nothing in Lean hashes anything: it is a label: what it is worth is what the hold of that sum in a sandbox is worth. -/
noncomputable def Tryz.pinned : Pinned := { name := "ytemhlkdingkjnaagreatdoor", sum := "00f87f82c1212a8cd7b12c7f81748f015e8bf7b2c531acf0555ad1dca2bcccd3", checked := Tryz.checked }
namespace Rows
def none {H : Type} : Left H := { results := [], args := [] }

/- WHAT THE LISTED PACKAGE-LEVEL VARIABLES READ AS WHEN THE CALL BEGINS. Each datum BY PROGRAM (the guide's laid-datum.mjs) off the statement by which the dump's own 'gosem.cut.vars' lays the variable. In a bare row this is a premise. The card (YtemhlkdingkjnaaGreatDoorCards.lean) ties it to the program's text. -/
def laid_unicode_utf8_acceptRanges {H : Type} : DataW H := .agg [.agg [.lit (.int .u8 128), .lit (.int .u8 191)], .agg [.lit (.int .u8 160), .lit (.int .u8 191)], .agg [.lit (.int .u8 128), .lit (.int .u8 159)], .agg [.lit (.int .u8 144), .lit (.int .u8 191)], .agg [.lit (.int .u8 128), .lit (.int .u8 143)], .agg [.lit (.int .u8 0), .lit (.int .u8 0)], .agg [.lit (.int .u8 0), .lit (.int .u8 0)], .agg [.lit (.int .u8 0), .lit (.int .u8 0)], .agg [.lit (.int .u8 0), .lit (.int .u8 0)], .agg [.lit (.int .u8 0), .lit (.int .u8 0)], .agg [.lit (.int .u8 0), .lit (.int .u8 0)], .agg [.lit (.int .u8 0), .lit (.int .u8 0)], .agg [.lit (.int .u8 0), .lit (.int .u8 0)], .agg [.lit (.int .u8 0), .lit (.int .u8 0)], .agg [.lit (.int .u8 0), .lit (.int .u8 0)], .agg [.lit (.int .u8 0), .lit (.int .u8 0)]]
/-- One of Go's own tables, pinned by name: the form's constant. -/
def laid_unicode_utf8_first : DataW Unit := Go.Pinned.utf8First

/-- 'chartularylaw15.MetaFinds': WHATEVER THE INPUT: true; the input reads as it did. -/
def metaFindsSpec : ChangeSpec := { name := "metaFinds", fn := fun _ => fun
  | [d1, d2] => { results := [.lit (.bool true)], args := [d1, d2] }
  | _ => none }
def metaFindsRow : OpenClaim := { program := "ytemhlkdingkjnaagreatdoor", sum := "00f87f82c1212a8cd7b12c7f81748f015e8bf7b2c531acf0555ad1dca2bcccd3", func := "chartulary/chartularylaw15.MetaFinds", spec := "metaFinds", inPlace := ["internal/bytealg.CountString", "internal/bytealg.IndexByteString", "internal/bytealg.IndexString", "slices.overlaps[chartulary/api.Bucket]", "slices.overlaps[chartulary/api.Object]", "slices.overlaps[chartulary/api.Part]"], unfollowed := true, recurses := true, named := ["unicode/utf8.first", "unicode/utf8.acceptRanges", "internal/bytealg.MaxLen"], plainKeys := false, apart := false, laid := [("unicode/utf8.acceptRanges", laid_unicode_utf8_acceptRanges), ("unicode/utf8.first", laid_unicode_utf8_first)] }
def MetaFindsSaid : Prop := metaFindsRow.holds Tryz.pinned (OpenSpec.ofChange metaFindsSpec)

/-- ITS FALSE NEIGHBOUR: 'it returns false'. Refute it at one input. -/
def metaFindsWrong : ChangeSpec := { name := "metaFinds", fn := fun _ => fun
  | [d1, d2] => { results := [.lit (.bool false)], args := [d1, d2] }
  | _ => none }
def MetaFindsWrongFalsely : Prop := metaFindsRow.holds Tryz.pinned (OpenSpec.ofChange metaFindsWrong)

/-- 'chartularylaw16.CountUses': WHATEVER THE INPUT: true; the input reads as it did. -/
def countUsesSpec : ChangeSpec := { name := "countUses", fn := fun _ => fun
  | [d] => { results := [.lit (.bool true)], args := [d] }
  | _ => none }
def countUsesRow : OpenClaim := { program := "ytemhlkdingkjnaagreatdoor", sum := "00f87f82c1212a8cd7b12c7f81748f015e8bf7b2c531acf0555ad1dca2bcccd3", func := "chartulary/chartularylaw16.CountUses", spec := "countUses", inPlace := ["internal/bytealg.CountString", "internal/bytealg.IndexByteString", "internal/bytealg.IndexString", "slices.overlaps[chartulary/api.Bucket]", "slices.overlaps[chartulary/api.Object]", "slices.overlaps[chartulary/api.Part]"], unfollowed := true, recurses := true, named := ["unicode/utf8.first", "unicode/utf8.acceptRanges", "internal/bytealg.MaxLen"], plainKeys := false, apart := false, laid := [("unicode/utf8.acceptRanges", laid_unicode_utf8_acceptRanges), ("unicode/utf8.first", laid_unicode_utf8_first)] }
def CountUsesSaid : Prop := countUsesRow.holds Tryz.pinned (OpenSpec.ofChange countUsesSpec)

/-- ITS FALSE NEIGHBOUR: 'it returns false'. Refute it at one input. -/
def countUsesWrong : ChangeSpec := { name := "countUses", fn := fun _ => fun
  | [d] => { results := [.lit (.bool false)], args := [d] }
  | _ => none }
def CountUsesWrongFalsely : Prop := countUsesRow.holds Tryz.pinned (OpenSpec.ofChange countUsesWrong)

/-- 'chartularylaw16.CountHolders': WHATEVER THE INPUT: true; the input reads as it did. -/
def countHoldersSpec : ChangeSpec := { name := "countHolders", fn := fun _ => fun
  | [d1, d2, d3] => { results := [.lit (.bool true)], args := [d1, d2, d3] }
  | _ => none }
def countHoldersRow : OpenClaim := { program := "ytemhlkdingkjnaagreatdoor", sum := "00f87f82c1212a8cd7b12c7f81748f015e8bf7b2c531acf0555ad1dca2bcccd3", func := "chartulary/chartularylaw16.CountHolders", spec := "countHolders", inPlace := ["internal/bytealg.CountString", "internal/bytealg.IndexByteString", "internal/bytealg.IndexString", "slices.overlaps[chartulary/api.Bucket]", "slices.overlaps[chartulary/api.Object]", "slices.overlaps[chartulary/api.Part]"], unfollowed := true, recurses := true, named := ["unicode/utf8.first", "unicode/utf8.acceptRanges", "internal/bytealg.MaxLen"], plainKeys := false, apart := false, laid := [("unicode/utf8.acceptRanges", laid_unicode_utf8_acceptRanges), ("unicode/utf8.first", laid_unicode_utf8_first)] }
def CountHoldersSaid : Prop := countHoldersRow.holds Tryz.pinned (OpenSpec.ofChange countHoldersSpec)

/-- ITS FALSE NEIGHBOUR: 'it returns false'. Refute it at one input. -/
def countHoldersWrong : ChangeSpec := { name := "countHolders", fn := fun _ => fun
  | [d1, d2, d3] => { results := [.lit (.bool false)], args := [d1, d2, d3] }
  | _ => none }
def CountHoldersWrongFalsely : Prop := countHoldersRow.holds Tryz.pinned (OpenSpec.ofChange countHoldersWrong)

/-- 'chartularylaw16.CountOwn': WHATEVER THE INPUT: true; the input reads as it did. -/
def countOwnSpec : ChangeSpec := { name := "countOwn", fn := fun _ => fun
  | [d1, d2] => { results := [.lit (.bool true)], args := [d1, d2] }
  | _ => none }
def countOwnRow : OpenClaim := { program := "ytemhlkdingkjnaagreatdoor", sum := "00f87f82c1212a8cd7b12c7f81748f015e8bf7b2c531acf0555ad1dca2bcccd3", func := "chartulary/chartularylaw16.CountOwn", spec := "countOwn", inPlace := ["internal/bytealg.CountString", "internal/bytealg.IndexByteString", "internal/bytealg.IndexString", "slices.overlaps[chartulary/api.Bucket]", "slices.overlaps[chartulary/api.Object]", "slices.overlaps[chartulary/api.Part]"], unfollowed := true, recurses := true, named := ["unicode/utf8.first", "unicode/utf8.acceptRanges", "internal/bytealg.MaxLen"], plainKeys := false, apart := false, laid := [("unicode/utf8.acceptRanges", laid_unicode_utf8_acceptRanges), ("unicode/utf8.first", laid_unicode_utf8_first)] }
def CountOwnSaid : Prop := countOwnRow.holds Tryz.pinned (OpenSpec.ofChange countOwnSpec)

/-- ITS FALSE NEIGHBOUR: 'it returns false'. Refute it at one input. -/
def countOwnWrong : ChangeSpec := { name := "countOwn", fn := fun _ => fun
  | [d1, d2] => { results := [.lit (.bool false)], args := [d1, d2] }
  | _ => none }
def CountOwnWrongFalsely : Prop := countOwnRow.holds Tryz.pinned (OpenSpec.ofChange countOwnWrong)

/- THE SECOND FORM. 'bulk': how many values and letters a reading holds, each counted each time it is reached (what is shared counts as often as it is met; a slice's spare places count too). A statement '..UptoSaid' is the law's where the arguments, and the package variables that the reading takes, are together of bulk at most 1048576: NARROWER than '..Said'. Prove '..Said' where nothing that the law and all that it calls make is longer than what came in: it says more and counts as full. Else prove '..UptoSaid'. A law counts once. -/
mutual
def uptoBulk {H : Type} : DataW H → Nat
  | .lit (.string bytes) => bytes.length + 1
  | .lit _ => 1
  | .nil => 1
  | .ptr d => uptoBulk d + 1
  | .slice elems spare => uptoBulkAll elems + uptoBulkAll spare + 1
  | .agg parts => uptoBulkAll parts + 1
  | .iface _ d => uptoBulk d + 1
  | .map entries => uptoBulkEntries entries + 1
  | .held _ => 1
def uptoBulkAll {H : Type} : List (DataW H) → Nat
  | [] => 0
  | d :: r => uptoBulk d + uptoBulkAll r
def uptoBulkEntries {H : Type} : List (Lit × DataW H) → Nat
  | [] => 0
  | x :: r => uptoBulkEntry x + uptoBulkEntries r
def uptoBulkEntry {H : Type} : Lit × DataW H → Nat
  | (.string bytes, d) => bytes.length + uptoBulk d + 1
  | (_, d) => uptoBulk d + 1
 end
def uptoSmall : (H : Type) → List (DataW H) → Bool := fun _ ds => decide (uptoBulkAll ds ≤ 1048576)
def OpenSpec.upto (s : _root_.Go.ChangeSpec) : _root_.Go.OpenSpec := { _root_.Go.OpenSpec.ofChange s with cond := some uptoSmall }

/-- 'chartularylaw15.MetaFinds', WHERE WHAT IT READS IS OF BULK AT MOST 1048576: true; the input reads as it did. -/
def metaFindsUptoRow : OpenClaim := { program := "ytemhlkdingkjnaagreatdoor", sum := "00f87f82c1212a8cd7b12c7f81748f015e8bf7b2c531acf0555ad1dca2bcccd3", func := "chartulary/chartularylaw15.MetaFinds", spec := "metaFinds", inPlace := ["internal/bytealg.CountString", "internal/bytealg.IndexByteString", "internal/bytealg.IndexString", "slices.overlaps[chartulary/api.Bucket]", "slices.overlaps[chartulary/api.Object]", "slices.overlaps[chartulary/api.Part]"], unfollowed := true, recurses := true, named := ["unicode/utf8.first", "unicode/utf8.acceptRanges", "internal/bytealg.MaxLen"], plainKeys := false, apart := false, laid := [("unicode/utf8.acceptRanges", laid_unicode_utf8_acceptRanges), ("unicode/utf8.first", laid_unicode_utf8_first)], narrowed := true }
def MetaFindsUptoSaid : Prop := metaFindsUptoRow.holds Tryz.pinned (OpenSpec.upto metaFindsSpec)

/-- 'chartularylaw16.CountUses', WHERE WHAT IT READS IS OF BULK AT MOST 1048576: true; the input reads as it did. -/
def countUsesUptoRow : OpenClaim := { program := "ytemhlkdingkjnaagreatdoor", sum := "00f87f82c1212a8cd7b12c7f81748f015e8bf7b2c531acf0555ad1dca2bcccd3", func := "chartulary/chartularylaw16.CountUses", spec := "countUses", inPlace := ["internal/bytealg.CountString", "internal/bytealg.IndexByteString", "internal/bytealg.IndexString", "slices.overlaps[chartulary/api.Bucket]", "slices.overlaps[chartulary/api.Object]", "slices.overlaps[chartulary/api.Part]"], unfollowed := true, recurses := true, named := ["unicode/utf8.first", "unicode/utf8.acceptRanges", "internal/bytealg.MaxLen"], plainKeys := false, apart := false, laid := [("unicode/utf8.acceptRanges", laid_unicode_utf8_acceptRanges), ("unicode/utf8.first", laid_unicode_utf8_first)], narrowed := true }
def CountUsesUptoSaid : Prop := countUsesUptoRow.holds Tryz.pinned (OpenSpec.upto countUsesSpec)

/-- 'chartularylaw16.CountHolders', WHERE WHAT IT READS IS OF BULK AT MOST 1048576: true; the input reads as it did. -/
def countHoldersUptoRow : OpenClaim := { program := "ytemhlkdingkjnaagreatdoor", sum := "00f87f82c1212a8cd7b12c7f81748f015e8bf7b2c531acf0555ad1dca2bcccd3", func := "chartulary/chartularylaw16.CountHolders", spec := "countHolders", inPlace := ["internal/bytealg.CountString", "internal/bytealg.IndexByteString", "internal/bytealg.IndexString", "slices.overlaps[chartulary/api.Bucket]", "slices.overlaps[chartulary/api.Object]", "slices.overlaps[chartulary/api.Part]"], unfollowed := true, recurses := true, named := ["unicode/utf8.first", "unicode/utf8.acceptRanges", "internal/bytealg.MaxLen"], plainKeys := false, apart := false, laid := [("unicode/utf8.acceptRanges", laid_unicode_utf8_acceptRanges), ("unicode/utf8.first", laid_unicode_utf8_first)], narrowed := true }
def CountHoldersUptoSaid : Prop := countHoldersUptoRow.holds Tryz.pinned (OpenSpec.upto countHoldersSpec)

/-- 'chartularylaw16.CountOwn', WHERE WHAT IT READS IS OF BULK AT MOST 1048576: true; the input reads as it did. -/
def countOwnUptoRow : OpenClaim := { program := "ytemhlkdingkjnaagreatdoor", sum := "00f87f82c1212a8cd7b12c7f81748f015e8bf7b2c531acf0555ad1dca2bcccd3", func := "chartulary/chartularylaw16.CountOwn", spec := "countOwn", inPlace := ["internal/bytealg.CountString", "internal/bytealg.IndexByteString", "internal/bytealg.IndexString", "slices.overlaps[chartulary/api.Bucket]", "slices.overlaps[chartulary/api.Object]", "slices.overlaps[chartulary/api.Part]"], unfollowed := true, recurses := true, named := ["unicode/utf8.first", "unicode/utf8.acceptRanges", "internal/bytealg.MaxLen"], plainKeys := false, apart := false, laid := [("unicode/utf8.acceptRanges", laid_unicode_utf8_acceptRanges), ("unicode/utf8.first", laid_unicode_utf8_first)], narrowed := true }
def CountOwnUptoSaid : Prop := countOwnUptoRow.holds Tryz.pinned (OpenSpec.upto countOwnSpec)

end Rows
end Go.Proofs.YtemhlkdingkjnaaGreatDoor
