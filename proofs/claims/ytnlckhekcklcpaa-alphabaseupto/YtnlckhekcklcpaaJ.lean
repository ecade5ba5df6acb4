/- AlphaBase: any bytes with 32 letters, and the bytes that any text is: where both are of bulk at most 1048576. -/
import Derived.Test.YtnlckhekcklcpaaP0
import Derived.Test.YtnlckhekcklcpaaF0
set_option linter.unusedVariables false
set_option linter.unusedSimpArgs false
namespace Go.Proofs.Ytnlckhekcklcpaa
open Go Go.Va Go.Proofs Go.ChangeShapes Go.WideShapes Go.ChangeAt Go.RowKit

theorem alphaBase_true {b : List Int} {s : ByteArray} (hb : ∀ x ∈ b, 0 ≤ x ∧ x ≤ 255) (h : b.length + s.size ≤ 1048576) : f6.f (100000000 + 40) b s = some (true, ()) := by
  unfold f6.f f6.S0
  rw [Unbase_eq (by omega) (by omega), refUnbase_eq (by omega) (by omega), awake_ok, Base_eq hb (by omega) (by omega), refBase_eq hb (by omega) (by omega)]
  simp only [bnd, eqS_self, if_true]
  unfold f13.f f13.S0
  simp only [eqS_self, if_true]
  simp
  rfl

theorem alphaBase_contract (H : Type) (enc : TypeId × Value → H) (W : World) (base : Nat) (args : Array Value) (ds gs : List (DataW H)) (before : List MemPlace)
    (hval : ∀ (j : Nat) t v, Try.f6.params[j]? = some t → args[j]? = some v → Value.okWide Try.prog W .any base t v)
    (hW : DataW.Whole enc Try.prog Try.f6.params.toList Rows.alphaBaseSpec.vars false W args.toList ds gs before) (hk : Rows.uptoSmall H (ds ++ gs) = true) :
    Calls Try.prog 6 args W fun e W' => ∃ v, e = .returned v ∧ Rows.alphaBaseSpec.post enc Try.prog Try.f6 false true false false W args v W' := by
  have hb := small_of hk
  have hW0 := hW
  obtain ⟨p, q, hA, hV, _, _, _⟩ := hW
  have hlen := (trodAll_length hA).2
  refine (law_calls (Ts := [.slice (.int .u8), .str]) (f := fun n v => f6.f n v.1 v.2.1) f6.ok (by decide) (tysB_ok (by kernel_rfl)) hA (fun i t v hi hv => hval i t v (by simpa using hi) hv) (fun v hw hv => ?_)).mono ?_
  · refine ⟨100000000 + 40, (), alphaBase_true (wf_bytes hw.1) ?_⟩
    have h1 : vol (.slice (.int .u8)) v.1 = v.1.length + 1 := vol_ints v.1
    have h2 : vol .str v.2.1 = v.2.1.size + 1 := rfl
    simp only [volD] at hv
    omega
  · rintro e W' ⟨rfl, hs⟩
    refine ⟨_, rfl, law_post hs kids full (by intro t ht; exact of_decide_eq_true (List.all_eq_true.1 (show (Try.f6.params.toList.all fun t => decide (t < Try.prog.types.size)) = true by kernel_rfl) t ht)) hW0 rfl (t0 := 4) (by kernel_rfl) (by kernel_rfl) ?_⟩
    match ds, hlen with
    | [d1, d2], _ => exact ⟨rfl, rfl, rfl⟩

set_option maxRecDepth 100000 in
theorem alphaBase_lifted (os : Os) (started : os.Started) (H : Type) (enc : TypeId × Value → H) (F : Stop.Interp) :
    ReturnsInHanded {} Try.checked os 6 .any ((Rows.OpenSpec.upto Rows.alphaBaseSpec).pre6 enc Try.prog Try.f6 Rows.alphaBaseUptoRow.domain false) (((Rows.OpenSpec.upto Rows.alphaBaseSpec).at F).post enc Try.prog Try.f6 false true false false) := by
  refine returnsInHanded_of_cond (C := Try.checked) (s := Rows.OpenSpec.upto Rows.alphaBaseSpec) (k := Rows.uptoSmall) rfl own started (by kernel_rfl) Try.func6
    (OpenSpec.witness (enc := enc) (C := Try.checked) (s := Rows.OpenSpec.upto Rows.alphaBaseSpec) (k := Rows.uptoSmall) rfl false ⟨#[], #[.slice none 0 0, .string ⟨#[]⟩], []⟩ 8 (by kernel_rfl) (by kernel_rfl) (by kernel_rfl)
      (x := ([.nil, .lit (.string [])], [], [])) (by kernel_rfl) rfl (by kernel_rfl)) ?_
  intro W base args ds gs before hval hW _ hk _
  exact alphaBase_contract H enc W base args ds gs before hval hW hk

theorem alphaBaseUpto : Rows.AlphaBaseUptoSaid :=
  OpenClaim.holds_of_cond 6 Try.f6 rfl rfl rfl rfl rfl rfl rfl ⟨rfl, rfl, rfl, rfl, rfl⟩ rfl rfl rfl rfl rfl (by kernel_rfl) Try.func6 (by kernel_rfl)
    (of_decide_eq_true (by kernel_rfl)) (by unfold Func.isWrapper; first | (rw [if_pos (by decide +kernel)]; kernel_rfl) | (rw [if_neg (by decide +kernel)]; exact ⟨rfl, rfl⟩))
    (fun os started H enc _ F => alphaBase_lifted os started H enc F)
end Go.Proofs.Ytnlckhekcklcpaa

