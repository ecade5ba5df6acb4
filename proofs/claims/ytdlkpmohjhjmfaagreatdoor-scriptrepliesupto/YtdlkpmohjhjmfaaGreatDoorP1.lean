/-
  The plain laws.
-/
import Derived.Test.YtdlkpmohjhjmfaaGreatDoorP0
set_option linter.unusedVariables false
set_option linter.unusedSimpArgs false
namespace Go.Proofs.YtdlkpmohjhjmfaaGreatDoor
open Go Go.Va Go.Proofs Go.ChangeShapes Go.WideShapes Go.ChangeAt Go.RowKit
theorem vol_Rw (x : Row) : vol T_api_Row x = x.1.size + 1 + (1 + (vol T_api_Version x.2.2.1 + (1 + 0))) := rfl
theorem vol_RP (r : RP) : vol T_api_Reply r = 1 + (1 + (((r.2.2.1.map (vol (.int .u8))).sum + 1) + (vol T_api_Version r.2.2.2.1 + (((r.2.2.2.2.1.map (vol T_api_Row)).sum + 1) + (1 + (((r.2.2.2.2.2.2.1.map (vol (.int .i64))).sum + 1) + (((r.2.2.2.2.2.2.2.1.map (vol .str)).sum + 1) + 0))))))) := rfl
theorem Wf_RP {r : RP} (hw : Wf T_api_Reply r) : Wf (.int .i64) r.1 ∧ Wf (.int .u64) r.2.1 ∧ Wf (.slice (.int .u8)) r.2.2.1 ∧ Wf T_api_Version r.2.2.2.1 ∧ Wf (.slice T_api_Row) r.2.2.2.2.1 ∧ Wf .bool r.2.2.2.2.2.1 ∧ Wf (.slice (.int .i64)) r.2.2.2.2.2.2.1 ∧ Wf (.slice .str) r.2.2.2.2.2.2.2.1 ∧ True := hw
theorem E_ofW {r : RP} (hw : Wf T_api_Reply r) : I64 r.1 := i64_of (Wf_RP hw).1
theorem R_ofW {n : Nat} {r : RP} (hw : Wf T_api_Reply r) (h : vol T_api_Reply r < n) : RI n r := by
  obtain ⟨w1, w2, w3, w4, w5, w6, w7, w8, w9⟩ := Wf_RP hw
  rw [vol_RP] at h
  have hv : vol T_api_Version r.2.2.2.1 < n := by omega
  have l1 := vol_len (e := T_api_Row) (l := r.2.2.2.2.1) (fun x _ => by rw [vol_Rw]; omega)
  have l2 := vol_len (e := .int .u8) (l := r.2.2.1) (fun x _ => Nat.le_refl 1)
  have l3 := vol_len (e := .int .i64) (l := r.2.2.2.2.2.2.1) (fun x _ => Nat.le_refl 1)
  have l4 := vol_len (e := .str) (l := r.2.2.2.2.2.2.2.1) (fun x _ => Nat.le_add_left 1 _)
  have hV := VI_of (V_ofW w4 hv)
  have hR : ∀ x ∈ r.2.2.2.2.1, x.1.size < n ∧ VI n x.2.2.1 := fun x hx => by
    have h1 := vol_mem (e := T_api_Row) hx
    rw [vol_Rw] at h1
    have w := (w5.2 x hx).2.2.1
    exact ⟨by omega, VI_of (V_ofW w (by omega))⟩
  exact ⟨⟨by omega, hV.b, by omega, fun x hx => ⟨(hR x hx).1, (hR x hx).2.b⟩, by omega, by omega⟩, u64_of w2, hV, hR, fun x hx => i64_of (w7.2 x hx), fun x hx => u8_of (w3.2 x hx)⟩
set_option maxRecDepth 100000 in
def zR : Array Value := #[Value.int IntKind.i64 0, Value.int IntKind.u64 0, Value.slice none 0 0, Value.int IntKind.u64 0, Value.bool false, Value.int IntKind.i64 0, Value.int IntKind.u64 0, Value.int IntKind.u8 0, Value.int IntKind.u8 0, Value.int IntKind.u8 0, Value.int IntKind.u8 0, Value.int IntKind.u8 0, Value.int IntKind.u8 0, Value.int IntKind.u8 0, Value.int IntKind.u8 0, Value.int IntKind.u8 0, Value.int IntKind.u8 0, Value.int IntKind.u8 0, Value.int IntKind.u8 0, Value.int IntKind.u8 0, Value.int IntKind.u8 0, Value.int IntKind.u8 0, Value.int IntKind.u8 0, Value.int IntKind.u8 0, Value.int IntKind.u8 0, Value.int IntKind.u8 0, Value.int IntKind.u8 0, Value.int IntKind.u8 0, Value.int IntKind.u8 0, Value.int IntKind.u8 0, Value.int IntKind.u8 0, Value.int IntKind.u8 0, Value.int IntKind.u8 0, Value.int IntKind.u8 0, Value.int IntKind.u8 0, Value.int IntKind.u8 0, Value.int IntKind.u8 0, Value.int IntKind.u8 0, Value.int IntKind.u8 0, Value.int IntKind.i64 0, Value.int IntKind.i64 0, Value.int IntKind.i64 0, Value.bool false, Value.slice none 0 0, Value.slice none 0 0, Value.bool false, Value.slice none 0 0, Value.slice none 0 0]
def dR {H : Type} : DataW H := .agg [.lit (.int .i64 0), .lit (.int .u64 0), .nil, .agg [.lit (.int .u64 0), .lit (.bool false), .lit (.int .i64 0), .lit (.int .u64 0), .agg [.lit (.int .u8 0), .lit (.int .u8 0), .lit (.int .u8 0), .lit (.int .u8 0), .lit (.int .u8 0), .lit (.int .u8 0), .lit (.int .u8 0), .lit (.int .u8 0), .lit (.int .u8 0), .lit (.int .u8 0), .lit (.int .u8 0), .lit (.int .u8 0), .lit (.int .u8 0), .lit (.int .u8 0), .lit (.int .u8 0), .lit (.int .u8 0), .lit (.int .u8 0), .lit (.int .u8 0), .lit (.int .u8 0), .lit (.int .u8 0), .lit (.int .u8 0), .lit (.int .u8 0), .lit (.int .u8 0), .lit (.int .u8 0), .lit (.int .u8 0), .lit (.int .u8 0), .lit (.int .u8 0), .lit (.int .u8 0), .lit (.int .u8 0), .lit (.int .u8 0), .lit (.int .u8 0), .lit (.int .u8 0)], .lit (.int .i64 0), .agg [.lit (.int .i64 0), .lit (.int .i64 0), .lit (.bool false)], .nil], .nil, .lit (.bool false), .nil, .nil]
theorem noHandle {W : World} (h : laidMetH Tryz.prog laidAll W) : laidMet Tryz.prog laidAll W := by
  have e : (laidAll.filter fun x => x.2.handleName?.isSome) = [] := by kernel_rfl
  unfold laidMetH at h
  rw [e] at h
  exact h
end Go.Proofs.YtdlkpmohjhjmfaaGreatDoor

