/-
  No cell of these rows narrows 'for every input' (looked for: loops, veiled, ifaces, maps, wideKeys, modest, calm, conditions, laid).
  DERIVED. THE GIVEN ROWS OF THIS SEAT. 5 by the template 'for every input the law returns true; each argument reads behind the call as it read before'; 0 by the template 'total and deterministic' (their statements: YtnlckhekcklcpaaTotals.lean).
  GIVEN WITH THE SEED: the statements are not yours to turn. If you find one false, say at which input.
  Laid BY PROGRAM, IN A SANDBOX (cutbox-rows.mjs): the forced cells as the released guide's own fill.sh prints them over the translation b04c769dce2084fb… (all of the seat's roots in one cut). By AI agents, Wed Nov 11 2026. No macro, syntax, notation, axiom, sorry.
-/
import Derived.Test.YtnlckhekcklcpaaChecked
import GoSem.Claim
import GoSem.ClaimJoined
import GoSem.ClaimMapViews
import Derived.JoinedTies
import Derived.KernelRfl
namespace Go.Proofs.Ytnlckhekcklcpaa
/- THE CELL 'sum', in the pinned program and in every row, IS THE sha256 OF THE DUMP (.gsa) THAT YtnlckhekcklcpaaProg.lean LOADS. Nothing in Lean hashes anything: it is a label: what it is worth is what the hold of that sum in a sandbox is worth. -/
noncomputable def Try.pinned : Pinned := { name := "ytnlckhekcklcpaa", sum := "b04c769dce2084fbef8248a8e932a9a202b4ad2040466cfdf3474b978f726abd", checked := Try.checked }
namespace Rows
def none {H : Type} : Left H := { results := [], args := [] }

/-- 'chartularylaw04.AlphaHex': WHATEVER THE INPUT: true; the input reads as it did. -/
def alphaHexSpec : ChangeSpec := { name := "alphaHex", fn := fun _ => fun
  | [d1, d2] => { results := [.lit (.bool true)], args := [d1, d2] }
  | _ => none }
def alphaHexRow : OpenClaim := { program := "ytnlckhekcklcpaa", sum := "b04c769dce2084fbef8248a8e932a9a202b4ad2040466cfdf3474b978f726abd", func := "chartulary/chartularylaw04.AlphaHex", spec := "alphaHex", inPlace := ["internal/bytealg.IndexByteString"], apart := false }
def AlphaHexSaid : Prop := alphaHexRow.holds Try.pinned (OpenSpec.ofChange alphaHexSpec)

/-- ITS FALSE NEIGHBOUR: 'it returns false'. Refute it at one input. -/
def alphaHexWrong : ChangeSpec := { name := "alphaHex", fn := fun _ => fun
  | [d1, d2] => { results := [.lit (.bool false)], args := [d1, d2] }
  | _ => none }
def AlphaHexWrongFalsely : Prop := alphaHexRow.holds Try.pinned (OpenSpec.ofChange alphaHexWrong)

/-- 'chartularylaw04.AlphaNumber': WHATEVER THE INPUT: true; the input reads as it did. -/
def alphaNumberSpec : ChangeSpec := { name := "alphaNumber", fn := fun _ => fun
  | [d1, d2] => { results := [.lit (.bool true)], args := [d1, d2] }
  | _ => none }
def alphaNumberRow : OpenClaim := { program := "ytnlckhekcklcpaa", sum := "b04c769dce2084fbef8248a8e932a9a202b4ad2040466cfdf3474b978f726abd", func := "chartulary/chartularylaw04.AlphaNumber", spec := "alphaNumber", inPlace := ["internal/bytealg.IndexByteString"], apart := false }
def AlphaNumberSaid : Prop := alphaNumberRow.holds Try.pinned (OpenSpec.ofChange alphaNumberSpec)

/-- ITS FALSE NEIGHBOUR: 'it returns false'. Refute it at one input. -/
def alphaNumberWrong : ChangeSpec := { name := "alphaNumber", fn := fun _ => fun
  | [d1, d2] => { results := [.lit (.bool false)], args := [d1, d2] }
  | _ => none }
def AlphaNumberWrongFalsely : Prop := alphaNumberRow.holds Try.pinned (OpenSpec.ofChange alphaNumberWrong)

/-- 'chartularylaw04.AlphaOrder': WHATEVER THE INPUT: true; the input reads as it did. -/
def alphaOrderSpec : ChangeSpec := { name := "alphaOrder", fn := fun _ => fun
  | [d1, d2] => { results := [.lit (.bool true)], args := [d1, d2] }
  | _ => none }
def alphaOrderRow : OpenClaim := { program := "ytnlckhekcklcpaa", sum := "b04c769dce2084fbef8248a8e932a9a202b4ad2040466cfdf3474b978f726abd", func := "chartulary/chartularylaw04.AlphaOrder", spec := "alphaOrder", inPlace := ["internal/bytealg.IndexByteString"], apart := false }
def AlphaOrderSaid : Prop := alphaOrderRow.holds Try.pinned (OpenSpec.ofChange alphaOrderSpec)

/-- ITS FALSE NEIGHBOUR: 'it returns false'. Refute it at one input. -/
def alphaOrderWrong : ChangeSpec := { name := "alphaOrder", fn := fun _ => fun
  | [d1, d2] => { results := [.lit (.bool false)], args := [d1, d2] }
  | _ => none }
def AlphaOrderWrongFalsely : Prop := alphaOrderRow.holds Try.pinned (OpenSpec.ofChange alphaOrderWrong)

/-- 'chartularylaw04.AlphaBase': WHATEVER THE INPUT: true; the input reads as it did. -/
def alphaBaseSpec : ChangeSpec := { name := "alphaBase", fn := fun _ => fun
  | [d1, d2] => { results := [.lit (.bool true)], args := [d1, d2] }
  | _ => none }
def alphaBaseRow : OpenClaim := { program := "ytnlckhekcklcpaa", sum := "b04c769dce2084fbef8248a8e932a9a202b4ad2040466cfdf3474b978f726abd", func := "chartulary/chartularylaw04.AlphaBase", spec := "alphaBase", inPlace := ["internal/bytealg.IndexByteString"], apart := false }
def AlphaBaseSaid : Prop := alphaBaseRow.holds Try.pinned (OpenSpec.ofChange alphaBaseSpec)

/-- ITS FALSE NEIGHBOUR: 'it returns false'. Refute it at one input. -/
def alphaBaseWrong : ChangeSpec := { name := "alphaBase", fn := fun _ => fun
  | [d1, d2] => { results := [.lit (.bool false)], args := [d1, d2] }
  | _ => none }
def AlphaBaseWrongFalsely : Prop := alphaBaseRow.holds Try.pinned (OpenSpec.ofChange alphaBaseWrong)

/-- 'chartularylaw04.AlphaBack': WHATEVER THE INPUT: true; the input reads as it did. -/
def alphaBackSpec : ChangeSpec := { name := "alphaBack", fn := fun _ => fun
  | [d1, d2, d3] => { results := [.lit (.bool true)], args := [d1, d2, d3] }
  | _ => none }
def alphaBackRow : OpenClaim := { program := "ytnlckhekcklcpaa", sum := "b04c769dce2084fbef8248a8e932a9a202b4ad2040466cfdf3474b978f726abd", func := "chartulary/chartularylaw04.AlphaBack", spec := "alphaBack", inPlace := ["internal/bytealg.IndexByteString"], apart := false }
def AlphaBackSaid : Prop := alphaBackRow.holds Try.pinned (OpenSpec.ofChange alphaBackSpec)

/-- ITS FALSE NEIGHBOUR: 'it returns false'. Refute it at one input. -/
def alphaBackWrong : ChangeSpec := { name := "alphaBack", fn := fun _ => fun
  | [d1, d2, d3] => { results := [.lit (.bool false)], args := [d1, d2, d3] }
  | _ => none }
def AlphaBackWrongFalsely : Prop := alphaBackRow.holds Try.pinned (OpenSpec.ofChange alphaBackWrong)

/- THE SECOND FORM. 'bulk': how many values and letters a reading holds, each counted each time it is reached (what is shared counts as often as it is met; a slice's spare places count too). A statement '..UptoSaid' is the law's where the arguments, and the package variables that the reading takes, are together of bulk at most 1048576: NARROWER than '..Said'. Prove '..Said' where nothing that the law and all that it calls make is longer than what came in: it says more and counts as full. Else prove '..UptoSaid'. A law counts once. -/
mutual
def uptoBulk {H : Type} : DataW H → Nat
  | .lit (.string bytes) => bytes.length + 1
  | .lit _ => 1
  | .nil => 1
  | .ptr d => uptoBulk d + 1
  | .slice elems spare => uptoBulkAll elems + uptoBulkAll spare + 1
  | .agg parts => uptoBulkAll parts + 1
  | .iface _ d => uptoBulk d + 1
  | .map entries => uptoBulkEntries entries + 1
  | .held _ => 1
def uptoBulkAll {H : Type} : List (DataW H) → Nat
  | [] => 0
  | d :: r => uptoBulk d + uptoBulkAll r
def uptoBulkEntries {H : Type} : List (Lit × DataW H) → Nat
  | [] => 0
  | x :: r => uptoBulkEntry x + uptoBulkEntries r
def uptoBulkEntry {H : Type} : Lit × DataW H → Nat
  | (.string bytes, d) => bytes.length + uptoBulk d + 1
  | (_, d) => uptoBulk d + 1
 end
def uptoSmall : (H : Type) → List (DataW H) → Bool := fun _ ds => decide (uptoBulkAll ds ≤ 1048576)
def OpenSpec.upto (s : _root_.Go.ChangeSpec) : _root_.Go.OpenSpec := { _root_.Go.OpenSpec.ofChange s with cond := some uptoSmall }

/-- 'chartularylaw04.AlphaHex', WHERE WHAT IT READS IS OF BULK AT MOST 1048576: true; the input reads as it did. -/
def alphaHexUptoRow : OpenClaim := { program := "ytnlckhekcklcpaa", sum := "b04c769dce2084fbef8248a8e932a9a202b4ad2040466cfdf3474b978f726abd", func := "chartulary/chartularylaw04.AlphaHex", spec := "alphaHex", inPlace := ["internal/bytealg.IndexByteString"], apart := false, narrowed := true }
def AlphaHexUptoSaid : Prop := alphaHexUptoRow.holds Try.pinned (OpenSpec.upto alphaHexSpec)

/-- 'chartularylaw04.AlphaNumber', WHERE WHAT IT READS IS OF BULK AT MOST 1048576: true; the input reads as it did. -/
def alphaNumberUptoRow : OpenClaim := { program := "ytnlckhekcklcpaa", sum := "b04c769dce2084fbef8248a8e932a9a202b4ad2040466cfdf3474b978f726abd", func := "chartulary/chartularylaw04.AlphaNumber", spec := "alphaNumber", inPlace := ["internal/bytealg.IndexByteString"], apart := false, narrowed := true }
def AlphaNumberUptoSaid : Prop := alphaNumberUptoRow.holds Try.pinned (OpenSpec.upto alphaNumberSpec)

/-- 'chartularylaw04.AlphaOrder', WHERE WHAT IT READS IS OF BULK AT MOST 1048576: true; the input reads as it did. -/
def alphaOrderUptoRow : OpenClaim := { program := "ytnlckhekcklcpaa", sum := "b04c769dce2084fbef8248a8e932a9a202b4ad2040466cfdf3474b978f726abd", func := "chartulary/chartularylaw04.AlphaOrder", spec := "alphaOrder", inPlace := ["internal/bytealg.IndexByteString"], apart := false, narrowed := true }
def AlphaOrderUptoSaid : Prop := alphaOrderUptoRow.holds Try.pinned (OpenSpec.upto alphaOrderSpec)

/-- 'chartularylaw04.AlphaBase', WHERE WHAT IT READS IS OF BULK AT MOST 1048576: true; the input reads as it did. -/
def alphaBaseUptoRow : OpenClaim := { program := "ytnlckhekcklcpaa", sum := "b04c769dce2084fbef8248a8e932a9a202b4ad2040466cfdf3474b978f726abd", func := "chartulary/chartularylaw04.AlphaBase", spec := "alphaBase", inPlace := ["internal/bytealg.IndexByteString"], apart := false, narrowed := true }
def AlphaBaseUptoSaid : Prop := alphaBaseUptoRow.holds Try.pinned (OpenSpec.upto alphaBaseSpec)

/-- 'chartularylaw04.AlphaBack', WHERE WHAT IT READS IS OF BULK AT MOST 1048576: true; the input reads as it did. -/
def alphaBackUptoRow : OpenClaim := { program := "ytnlckhekcklcpaa", sum := "b04c769dce2084fbef8248a8e932a9a202b4ad2040466cfdf3474b978f726abd", func := "chartulary/chartularylaw04.AlphaBack", spec := "alphaBack", inPlace := ["internal/bytealg.IndexByteString"], apart := false, narrowed := true }
def AlphaBackUptoSaid : Prop := alphaBackUptoRow.holds Try.pinned (OpenSpec.upto alphaBackSpec)

end Rows
end Go.Proofs.Ytnlckhekcklcpaa
