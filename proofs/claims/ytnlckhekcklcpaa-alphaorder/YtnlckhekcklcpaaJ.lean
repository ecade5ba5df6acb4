/- AlphaOrder: of two numbers the greater one has the greater text, all of one length: for every input. -/
import Derived.Test.YtnlckhekcklcpaaP0
import Derived.Test.YtnlckhekcklcpaaF0
import Derived.WalkKit
import Derived.ProofKit
import Derived.OpenShut
namespace Go.Proofs.Ytnlckhekcklcpaa
open Go Go.Va Go.Proofs Go.ChangeShapes Go.WideShapes Go.ChangeAt Go.RowKit

theorem alphaOrder_true {x y : Int} (hx : 0 ≤ x ∧ x ≤ 18446744073709551615) (hy : 0 ≤ y ∧ y ≤ 18446744073709551615) : f5.f (2000000 + 40) x y = some (true, ()) := by
  have hl : ∀ z : Int, (bytesOf (num z 13 [])).size = 13 := fun z => by rw [size_bytesOf, num_length]; rfl
  have h1 : (⟨#[48]⟩ : ByteArray).size = 1 := rfl
  have hu : unnumber (ofBytes (bytesOf (num x 13 []) ++ (⟨#[48]⟩ : ByteArray))) = none := by
    unfold unnumber
    rw [if_neg]
    rw [← size_of, ByteArray.size_append, hl, h1]; omega
  unfold f5.f f5.S0
  rw [Number_eq hx (by omega), Number_eq hy (by omega)]
  simp only [bnd]
  rw [Unnumber_eq (by omega), hu, awake_ok, hl, hl, if_pos (by rw [h1]; omega), number_less hx hy]
  simp only [bnd]
  simp [backN]
  rfl

theorem alphaOrder_contract (H : Type) (enc : TypeId × Value → H) (W : World) (base : Nat) (args : Array Value) (ds gs : List (DataW H)) (before : List MemPlace)
    (hval : ∀ (j : Nat) t v, Try.f5.params[j]? = some t → args[j]? = some v → Value.okWide Try.prog W .any base t v)
    (hW : DataW.Whole enc Try.prog Try.f5.params.toList Rows.alphaOrderSpec.vars false W args.toList ds gs before) :
    Calls Try.prog 5 args W fun e W' => ∃ v, e = .returned v ∧ Rows.alphaOrderSpec.post enc Try.prog Try.f5 false true false false W args v W' := by
  have hW0 := hW
  obtain ⟨p, q, hA, hV, _, _, _⟩ := hW
  have hlen := (trodAll_length hA).2
  refine (law_calls (Ts := [.int .u64, .int .u64]) (f := fun n v => f5.f n v.1 v.2.1) f5.ok (by decide) (tysB_ok (by kernel_rfl)) hA (fun i t v hi hv => hval i t v (by simpa using hi) hv) (fun v hw hv => ?_)).mono ?_
  · exact ⟨2000000 + 40, (), alphaOrder_true hw.1 hw.2.1⟩
  · rintro e W' ⟨rfl, hs⟩
    refine ⟨_, rfl, law_post hs kids full (by intro t ht; exact of_decide_eq_true (List.all_eq_true.1 (show (Try.f5.params.toList.all fun t => decide (t < Try.prog.types.size)) = true by kernel_rfl) t ht)) hW0 rfl (t0 := 4) (by kernel_rfl) (by kernel_rfl) ?_⟩
    match ds, hlen with
    | [d1, d2], _ => exact ⟨rfl, rfl, rfl⟩

set_option maxRecDepth 100000 in
theorem alphaOrder_lifted (os : Os) (started : os.Started) (H : Type) (enc : TypeId × Value → H) :
    ReturnsInHanded {} Try.checked os 5 .any (Rows.alphaOrderSpec.pre6 enc Try.prog Try.f5 Rows.alphaOrderRow.domain false) (Rows.alphaOrderSpec.post enc Try.prog Try.f5 false true false false) := by
  refine returnsInHanded_of_change (C := Try.checked) own started (by kernel_rfl) Try.func5
    (ChangeSpec.witness6 (enc := enc) (C := Try.checked) false ⟨#[], #[.int .u64 0, .int .u64 0], []⟩ 8 (by kernel_rfl) (by kernel_rfl) (by kernel_rfl) (by kernel_rfl)) ?_
  intro W base args ds gs before hval hW hcnd _
  exact alphaOrder_contract H enc W base args ds gs before hval hW

theorem alphaOrder : Rows.AlphaOrderSaid :=
  OpenClaim.holds_of_wide 5 Try.f5 rfl rfl rfl rfl rfl rfl rfl ⟨rfl, rfl, rfl, rfl, rfl⟩ rfl rfl rfl rfl rfl (by kernel_rfl) Try.func5 (by kernel_rfl)
    (of_decide_eq_true (by kernel_rfl)) (by unfold Func.isWrapper; first | (rw [if_pos (by decide +kernel)]; kernel_rfl) | (rw [if_neg (by decide +kernel)]; exact ⟨rfl, rfl⟩))
    (fun os started H enc _ => alphaOrder_lifted os started H enc)
end Go.Proofs.Ytnlckhekcklcpaa

