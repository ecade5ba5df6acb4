/- AlphaNumber: any number with 13 letters, and the number that any text is: for every input. -/
import Derived.Test.YtnlckhekcklcpaaP0
import Derived.Test.YtnlckhekcklcpaaF0
import Derived.WalkKit
import Derived.ProofKit
import Derived.OpenShut
namespace Go.Proofs.Ytnlckhekcklcpaa
open Go Go.Va Go.Proofs Go.ChangeShapes Go.WideShapes Go.ChangeAt Go.RowKit

theorem alphaNumber_true {x : Int} {s : ByteArray} (hx : 0 ≤ x ∧ x ≤ 18446744073709551615) : f4.f (2000000 + 40) x s = some (true, ()) := by
  unfold f4.f f4.S0
  rw [Unnumber_eq (by omega), refUnnumber_eq (by omega), awake_ok, Number_eq hx (by omega), refNumber_eq hx (by omega)]
  simp only [bnd, eqS_self, if_true]
  simp
  rfl

theorem alphaNumber_contract (H : Type) (enc : TypeId × Value → H) (W : World) (base : Nat) (args : Array Value) (ds gs : List (DataW H)) (before : List MemPlace)
    (hval : ∀ (j : Nat) t v, Try.f4.params[j]? = some t → args[j]? = some v → Value.okWide Try.prog W .any base t v)
    (hW : DataW.Whole enc Try.prog Try.f4.params.toList Rows.alphaNumberSpec.vars false W args.toList ds gs before) :
    Calls Try.prog 4 args W fun e W' => ∃ v, e = .returned v ∧ Rows.alphaNumberSpec.post enc Try.prog Try.f4 false true false false W args v W' := by
  have hW0 := hW
  obtain ⟨p, q, hA, hV, _, _, _⟩ := hW
  have hlen := (trodAll_length hA).2
  refine (law_calls (Ts := [.int .u64, .str]) (f := fun n v => f4.f n v.1 v.2.1) f4.ok (by decide) (tysB_ok (by kernel_rfl)) hA (fun i t v hi hv => hval i t v (by simpa using hi) hv) (fun v hw hv => ?_)).mono ?_
  · exact ⟨2000000 + 40, (), alphaNumber_true hw.1⟩
  · rintro e W' ⟨rfl, hs⟩
    refine ⟨_, rfl, law_post hs kids full (by intro t ht; exact of_decide_eq_true (List.all_eq_true.1 (show (Try.f4.params.toList.all fun t => decide (t < Try.prog.types.size)) = true by kernel_rfl) t ht)) hW0 rfl (t0 := 4) (by kernel_rfl) (by kernel_rfl) ?_⟩
    match ds, hlen with
    | [d1, d2], _ => exact ⟨rfl, rfl, rfl⟩

set_option maxRecDepth 100000 in
theorem alphaNumber_lifted (os : Os) (started : os.Started) (H : Type) (enc : TypeId × Value → H) :
    ReturnsInHanded {} Try.checked os 4 .any (Rows.alphaNumberSpec.pre6 enc Try.prog Try.f4 Rows.alphaNumberRow.domain false) (Rows.alphaNumberSpec.post enc Try.prog Try.f4 false true false false) := by
  refine returnsInHanded_of_change (C := Try.checked) own started (by kernel_rfl) Try.func4
    (ChangeSpec.witness6 (enc := enc) (C := Try.checked) false ⟨#[], #[.int .u64 0, .string ⟨#[]⟩], []⟩ 8 (by kernel_rfl) (by kernel_rfl) (by kernel_rfl) (by kernel_rfl)) ?_
  intro W base args ds gs before hval hW hcnd _
  exact alphaNumber_contract H enc W base args ds gs before hval hW

theorem alphaNumber : Rows.AlphaNumberSaid :=
  OpenClaim.holds_of_wide 4 Try.f4 rfl rfl rfl rfl rfl rfl rfl ⟨rfl, rfl, rfl, rfl, rfl⟩ rfl rfl rfl rfl rfl (by kernel_rfl) Try.func4 (by kernel_rfl)
    (of_decide_eq_true (by kernel_rfl)) (by unfold Func.isWrapper; first | (rw [if_pos (by decide +kernel)]; kernel_rfl) | (rw [if_neg (by decide +kernel)]; exact ⟨rfl, rfl⟩))
    (fun os started H enc _ => alphaNumber_lifted os started H enc)
end Go.Proofs.Ytnlckhekcklcpaa

