/-
  NARROWER THAN 'FOR EVERY INPUT', by the rows' own cells (each row's printed sentence says how): ObjectAdds: laid · ObjectFinds: laid · ObjectGood: laid · ObjectChanges: laid · ObjectBack: laid.
  DERIVED. THE GIVEN ROWS OF THIS SEAT. 5 by the template 'for every input the law returns true; each argument reads behind the call as it read before'; 0 by the template 'total and deterministic' (their statements: YtnlckhekcklcpaaDoorTotals.lean).
  GIVEN WITH THE SEED: the statements are not yours to turn. If you find one false, say at which input.
  Laid BY PROGRAM, IN A SANDBOX (cutbox-rows.mjs): the forced cells as the released guide's own fill.sh prints them over the translation e893e4fe794d55bf… (all of the seat's roots in one cut). By AI agents, Wed Nov 11 2026. No macro, syntax, notation, axiom, sorry.
-/
import Derived.Test.YtnlckhekcklcpaaDoorChecked
import GoSem.PinnedTables
import GoSem.Claim
import GoSem.ClaimJoined
import GoSem.ClaimMapViews
import Derived.JoinedTies
import Derived.KernelRfl
namespace Go.Proofs.YtnlckhekcklcpaaDoor
/- THE CELL 'sum', in the pinned program and in every row, IS THE sha256 OF THE DUMP (.gsa) THAT YtnlckhekcklcpaaDoorProg.lean LOADS. Nothing in Lean hashes anything: it is a label: what it is worth is what the hold of that sum in a sandbox is worth. -/
noncomputable def Tryd.pinned : Pinned := { name := "ytnlckhekcklcpaadoor", sum := "e893e4fe794d55bf678ed71ec835aeca53eb558f6199963519b35af9ce2f0f82", checked := Tryd.checked }
namespace Rows
def none {H : Type} : Left H := { results := [], args := [] }

/- WHAT THE LISTED PACKAGE-LEVEL VARIABLES READ AS WHEN THE CALL BEGINS. Each datum BY PROGRAM (the guide's laid-datum.mjs) off the statement by which the dump's own 'gosem.cut.vars' lays the variable. In a bare row this is a premise. The card (YtnlckhekcklcpaaDoorCards.lean) ties it to the program's text. -/
def laid_unicode_utf8_acceptRanges {H : Type} : DataW H := .agg [.agg [.lit (.int .u8 128), .lit (.int .u8 191)], .agg [.lit (.int .u8 160), .lit (.int .u8 191)], .agg [.lit (.int .u8 128), .lit (.int .u8 159)], .agg [.lit (.int .u8 144), .lit (.int .u8 191)], .agg [.lit (.int .u8 128), .lit (.int .u8 143)], .agg [.lit (.int .u8 0), .lit (.int .u8 0)], .agg [.lit (.int .u8 0), .lit (.int .u8 0)], .agg [.lit (.int .u8 0), .lit (.int .u8 0)], .agg [.lit (.int .u8 0), .lit (.int .u8 0)], .agg [.lit (.int .u8 0), .lit (.int .u8 0)], .agg [.lit (.int .u8 0), .lit (.int .u8 0)], .agg [.lit (.int .u8 0), .lit (.int .u8 0)], .agg [.lit (.int .u8 0), .lit (.int .u8 0)], .agg [.lit (.int .u8 0), .lit (.int .u8 0)], .agg [.lit (.int .u8 0), .lit (.int .u8 0)], .agg [.lit (.int .u8 0), .lit (.int .u8 0)]]
/-- One of Go's own tables, pinned by name: the form's constant. -/
def laid_unicode_utf8_first : DataW Unit := Go.Pinned.utf8First

/-- 'chartularylaw13.ObjectAdds': WHATEVER THE INPUT: true; the input reads as it did. -/
def objectAddsSpec : ChangeSpec := { name := "objectAdds", fn := fun _ => fun
  | [d1, d2] => { results := [.lit (.bool true)], args := [d1, d2] }
  | _ => none }
def objectAddsRow : OpenClaim := { program := "ytnlckhekcklcpaadoor", sum := "e893e4fe794d55bf678ed71ec835aeca53eb558f6199963519b35af9ce2f0f82", func := "chartulary/chartularylaw13.ObjectAdds", spec := "objectAdds", unfollowed := true, recurses := true, named := ["unicode/utf8.first", "unicode/utf8.acceptRanges"], apart := false, laid := [("unicode/utf8.acceptRanges", laid_unicode_utf8_acceptRanges), ("unicode/utf8.first", laid_unicode_utf8_first)] }
def ObjectAddsSaid : Prop := objectAddsRow.holds Tryd.pinned (OpenSpec.ofChange objectAddsSpec)

/-- ITS FALSE NEIGHBOUR: 'it returns false'. Refute it at one input. -/
def objectAddsWrong : ChangeSpec := { name := "objectAdds", fn := fun _ => fun
  | [d1, d2] => { results := [.lit (.bool false)], args := [d1, d2] }
  | _ => none }
def ObjectAddsWrongFalsely : Prop := objectAddsRow.holds Tryd.pinned (OpenSpec.ofChange objectAddsWrong)

/-- 'chartularylaw13.ObjectFinds': WHATEVER THE INPUT: true; the input reads as it did. -/
def objectFindsSpec : ChangeSpec := { name := "objectFinds", fn := fun _ => fun
  | [d1, d2] => { results := [.lit (.bool true)], args := [d1, d2] }
  | _ => none }
def objectFindsRow : OpenClaim := { program := "ytnlckhekcklcpaadoor", sum := "e893e4fe794d55bf678ed71ec835aeca53eb558f6199963519b35af9ce2f0f82", func := "chartulary/chartularylaw13.ObjectFinds", spec := "objectFinds", unfollowed := true, recurses := true, named := ["unicode/utf8.first", "unicode/utf8.acceptRanges"], apart := false, laid := [("unicode/utf8.acceptRanges", laid_unicode_utf8_acceptRanges), ("unicode/utf8.first", laid_unicode_utf8_first)] }
def ObjectFindsSaid : Prop := objectFindsRow.holds Tryd.pinned (OpenSpec.ofChange objectFindsSpec)

/-- ITS FALSE NEIGHBOUR: 'it returns false'. Refute it at one input. -/
def objectFindsWrong : ChangeSpec := { name := "objectFinds", fn := fun _ => fun
  | [d1, d2] => { results := [.lit (.bool false)], args := [d1, d2] }
  | _ => none }
def ObjectFindsWrongFalsely : Prop := objectFindsRow.holds Tryd.pinned (OpenSpec.ofChange objectFindsWrong)

/-- 'chartularylaw13.ObjectGood': WHATEVER THE INPUT: true; the input reads as it did. -/
def objectGoodSpec : ChangeSpec := { name := "objectGood", fn := fun _ => fun
  | [d1, d2, d3] => { results := [.lit (.bool true)], args := [d1, d2, d3] }
  | _ => none }
def objectGoodRow : OpenClaim := { program := "ytnlckhekcklcpaadoor", sum := "e893e4fe794d55bf678ed71ec835aeca53eb558f6199963519b35af9ce2f0f82", func := "chartulary/chartularylaw13.ObjectGood", spec := "objectGood", unfollowed := true, recurses := true, named := ["unicode/utf8.first", "unicode/utf8.acceptRanges"], apart := false, laid := [("unicode/utf8.acceptRanges", laid_unicode_utf8_acceptRanges), ("unicode/utf8.first", laid_unicode_utf8_first)] }
def ObjectGoodSaid : Prop := objectGoodRow.holds Tryd.pinned (OpenSpec.ofChange objectGoodSpec)

/-- ITS FALSE NEIGHBOUR: 'it returns false'. Refute it at one input. -/
def objectGoodWrong : ChangeSpec := { name := "objectGood", fn := fun _ => fun
  | [d1, d2, d3] => { results := [.lit (.bool false)], args := [d1, d2, d3] }
  | _ => none }
def ObjectGoodWrongFalsely : Prop := objectGoodRow.holds Tryd.pinned (OpenSpec.ofChange objectGoodWrong)

/-- 'chartularylaw13.ObjectChanges': WHATEVER THE INPUT: true; the input reads as it did. -/
def objectChangesSpec : ChangeSpec := { name := "objectChanges", fn := fun _ => fun
  | [d1, d2, d3] => { results := [.lit (.bool true)], args := [d1, d2, d3] }
  | _ => none }
def objectChangesRow : OpenClaim := { program := "ytnlckhekcklcpaadoor", sum := "e893e4fe794d55bf678ed71ec835aeca53eb558f6199963519b35af9ce2f0f82", func := "chartulary/chartularylaw13.ObjectChanges", spec := "objectChanges", unfollowed := true, recurses := true, named := ["unicode/utf8.first", "unicode/utf8.acceptRanges"], apart := false, laid := [("unicode/utf8.acceptRanges", laid_unicode_utf8_acceptRanges), ("unicode/utf8.first", laid_unicode_utf8_first)] }
def ObjectChangesSaid : Prop := objectChangesRow.holds Tryd.pinned (OpenSpec.ofChange objectChangesSpec)

/-- ITS FALSE NEIGHBOUR: 'it returns false'. Refute it at one input. -/
def objectChangesWrong : ChangeSpec := { name := "objectChanges", fn := fun _ => fun
  | [d1, d2, d3] => { results := [.lit (.bool false)], args := [d1, d2, d3] }
  | _ => none }
def ObjectChangesWrongFalsely : Prop := objectChangesRow.holds Tryd.pinned (OpenSpec.ofChange objectChangesWrong)

/-- 'chartularylaw13.ObjectBack': WHATEVER THE INPUT: true; the input reads as it did. -/
def objectBackSpec : ChangeSpec := { name := "objectBack", fn := fun _ => fun
  | [d1, d2] => { results := [.lit (.bool true)], args := [d1, d2] }
  | _ => none }
def objectBackRow : OpenClaim := { program := "ytnlckhekcklcpaadoor", sum := "e893e4fe794d55bf678ed71ec835aeca53eb558f6199963519b35af9ce2f0f82", func := "chartulary/chartularylaw13.ObjectBack", spec := "objectBack", unfollowed := true, recurses := true, named := ["unicode/utf8.first", "unicode/utf8.acceptRanges"], apart := false, laid := [("unicode/utf8.acceptRanges", laid_unicode_utf8_acceptRanges), ("unicode/utf8.first", laid_unicode_utf8_first)] }
def ObjectBackSaid : Prop := objectBackRow.holds Tryd.pinned (OpenSpec.ofChange objectBackSpec)

/-- ITS FALSE NEIGHBOUR: 'it returns false'. Refute it at one input. -/
def objectBackWrong : ChangeSpec := { name := "objectBack", fn := fun _ => fun
  | [d1, d2] => { results := [.lit (.bool false)], args := [d1, d2] }
  | _ => none }
def ObjectBackWrongFalsely : Prop := objectBackRow.holds Tryd.pinned (OpenSpec.ofChange objectBackWrong)

/- THE SECOND FORM. 'bulk': how many values and letters a reading holds, each counted each time it is reached (what is shared counts as often as it is met; a slice's spare places count too). A statement '..UptoSaid' is the law's where the arguments, and the package variables that the reading takes, are together of bulk at most 1048576: NARROWER than '..Said'. Prove '..Said' where nothing that the law and all that it calls make is longer than what came in: it says more and counts as full. Else prove '..UptoSaid'. A law counts once. -/
mutual
def uptoBulk {H : Type} : DataW H → Nat
  | .lit (.string bytes) => bytes.length + 1
  | .lit _ => 1
  | .nil => 1
  | .ptr d => uptoBulk d + 1
  | .slice elems spare => uptoBulkAll elems + uptoBulkAll spare + 1
  | .agg parts => uptoBulkAll parts + 1
  | .iface _ d => uptoBulk d + 1
  | .map entries => uptoBulkEntries entries + 1
  | .held _ => 1
def uptoBulkAll {H : Type} : List (DataW H) → Nat
  | [] => 0
  | d :: r => uptoBulk d + uptoBulkAll r
def uptoBulkEntries {H : Type} : List (Lit × DataW H) → Nat
  | [] => 0
  | x :: r => uptoBulkEntry x + uptoBulkEntries r
def uptoBulkEntry {H : Type} : Lit × DataW H → Nat
  | (.string bytes, d) => bytes.length + uptoBulk d + 1
  | (_, d) => uptoBulk d + 1
 end
def uptoSmall : (H : Type) → List (DataW H) → Bool := fun _ ds => decide (uptoBulkAll ds ≤ 1048576)
def OpenSpec.upto (s : _root_.Go.ChangeSpec) : _root_.Go.OpenSpec := { _root_.Go.OpenSpec.ofChange s with cond := some uptoSmall }

/-- 'chartularylaw13.ObjectAdds', WHERE WHAT IT READS IS OF BULK AT MOST 1048576: true; the input reads as it did. -/
def objectAddsUptoRow : OpenClaim := { program := "ytnlckhekcklcpaadoor", sum := "e893e4fe794d55bf678ed71ec835aeca53eb558f6199963519b35af9ce2f0f82", func := "chartulary/chartularylaw13.ObjectAdds", spec := "objectAdds", unfollowed := true, recurses := true, named := ["unicode/utf8.first", "unicode/utf8.acceptRanges"], apart := false, laid := [("unicode/utf8.acceptRanges", laid_unicode_utf8_acceptRanges), ("unicode/utf8.first", laid_unicode_utf8_first)], narrowed := true }
def ObjectAddsUptoSaid : Prop := objectAddsUptoRow.holds Tryd.pinned (OpenSpec.upto objectAddsSpec)

/-- 'chartularylaw13.ObjectFinds', WHERE WHAT IT READS IS OF BULK AT MOST 1048576: true; the input reads as it did. -/
def objectFindsUptoRow : OpenClaim := { program := "ytnlckhekcklcpaadoor", sum := "e893e4fe794d55bf678ed71ec835aeca53eb558f6199963519b35af9ce2f0f82", func := "chartulary/chartularylaw13.ObjectFinds", spec := "objectFinds", unfollowed := true, recurses := true, named := ["unicode/utf8.first", "unicode/utf8.acceptRanges"], apart := false, laid := [("unicode/utf8.acceptRanges", laid_unicode_utf8_acceptRanges), ("unicode/utf8.first", laid_unicode_utf8_first)], narrowed := true }
def ObjectFindsUptoSaid : Prop := objectFindsUptoRow.holds Tryd.pinned (OpenSpec.upto objectFindsSpec)

/-- 'chartularylaw13.ObjectGood', WHERE WHAT IT READS IS OF BULK AT MOST 1048576: true; the input reads as it did. -/
def objectGoodUptoRow : OpenClaim := { program := "ytnlckhekcklcpaadoor", sum := "e893e4fe794d55bf678ed71ec835aeca53eb558f6199963519b35af9ce2f0f82", func := "chartulary/chartularylaw13.ObjectGood", spec := "objectGood", unfollowed := true, recurses := true, named := ["unicode/utf8.first", "unicode/utf8.acceptRanges"], apart := false, laid := [("unicode/utf8.acceptRanges", laid_unicode_utf8_acceptRanges), ("unicode/utf8.first", laid_unicode_utf8_first)], narrowed := true }
def ObjectGoodUptoSaid : Prop := objectGoodUptoRow.holds Tryd.pinned (OpenSpec.upto objectGoodSpec)

/-- 'chartularylaw13.ObjectChanges', WHERE WHAT IT READS IS OF BULK AT MOST 1048576: true; the input reads as it did. -/
def objectChangesUptoRow : OpenClaim := { program := "ytnlckhekcklcpaadoor", sum := "e893e4fe794d55bf678ed71ec835aeca53eb558f6199963519b35af9ce2f0f82", func := "chartulary/chartularylaw13.ObjectChanges", spec := "objectChanges", unfollowed := true, recurses := true, named := ["unicode/utf8.first", "unicode/utf8.acceptRanges"], apart := false, laid := [("unicode/utf8.acceptRanges", laid_unicode_utf8_acceptRanges), ("unicode/utf8.first", laid_unicode_utf8_first)], narrowed := true }
def ObjectChangesUptoSaid : Prop := objectChangesUptoRow.holds Tryd.pinned (OpenSpec.upto objectChangesSpec)

/-- 'chartularylaw13.ObjectBack', WHERE WHAT IT READS IS OF BULK AT MOST 1048576: true; the input reads as it did. -/
def objectBackUptoRow : OpenClaim := { program := "ytnlckhekcklcpaadoor", sum := "e893e4fe794d55bf678ed71ec835aeca53eb558f6199963519b35af9ce2f0f82", func := "chartulary/chartularylaw13.ObjectBack", spec := "objectBack", unfollowed := true, recurses := true, named := ["unicode/utf8.first", "unicode/utf8.acceptRanges"], apart := false, laid := [("unicode/utf8.acceptRanges", laid_unicode_utf8_acceptRanges), ("unicode/utf8.first", laid_unicode_utf8_first)], narrowed := true }
def ObjectBackUptoSaid : Prop := objectBackUptoRow.holds Tryd.pinned (OpenSpec.upto objectBackSpec)

end Rows
end Go.Proofs.YtnlckhekcklcpaaDoor
