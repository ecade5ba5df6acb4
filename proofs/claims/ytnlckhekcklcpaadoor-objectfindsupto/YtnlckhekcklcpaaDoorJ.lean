/- ObjectFinds: any version of any object, the newest one, and when it was replaced: where what is read is of bulk at most 1048576; the card, tied: the two tables of unicode/utf8 hold what the program's text lays. -/
import Derived.Test.YtnlckhekcklcpaaDoorP0
set_option linter.unusedVariables false
set_option linter.unusedSimpArgs false
namespace Go.Proofs.YtnlckhekcklcpaaDoor
open Go Go.Va Go.Proofs Go.ChangeShapes Go.WideShapes Go.ChangeAt Go.RowKit

theorem objectFinds_contract (H : Type) (enc : TypeId × Value → H) (W : World) (base : Nat) (args : Array Value) (ds gs : List (DataW H)) (before : List MemPlace)
    (hval : ∀ (j : Nat) t v, Tryd.f4.params[j]? = some t → args[j]? = some v → Value.okWide Tryd.prog W .any base t v)
    (hW : DataW.Whole enc Tryd.prog Tryd.f4.params.toList Rows.objectFindsSpec.vars false W args.toList ds gs before) (hk : Rows.uptoSmall H (ds ++ gs) = true) (hL : laidMetH Tryd.prog Rows.objectFindsUptoRow.laid W) :
    Calls Tryd.prog 4 args W fun e W' => ∃ v, e = .returned v ∧ Rows.objectFindsSpec.post enc Tryd.prog Tryd.f4 false true false false W args v W' := by
  have hb := small_of hk
  have hW0 := hW
  have hT : Lib.Utf8Tabs 0 1 W := tabs_of (fst_eq ▸ Lib.laidMet.reads hL (.tail _ (.head _))) (acc_eq ▸ Lib.laidMet.reads hL (.head _))
  obtain ⟨p, q, hA, hV, _, _, _⟩ := hW
  have hlen := (trodAll_length hA).2
  refine (law_calls (Ts := [t23, .int .u64]) (f := fun n v => f4.f n v.1 v.2.1) f4.ok (by decide) (tysB_ok (by kernel_rfl)) hA (fun i t v hi hv => hval i t v (by simpa using hi) hv) (gl_of hT) (fun v hw hv => ?_)).mono ?_
  · have hn : 2097152 ≤ 536870912 := by decide
    have h5 : 40 ≤ 2097152 := by decide
    have h0 : vol (t23) (v.1) < 2097152 := by simp only [volD] at hv; omega
    exact ⟨2097152, (), finds_law hn h5 (OB_of hw.1 h0).1 _⟩
  · rintro e W' ⟨rfl, hs⟩
    refine ⟨_, rfl, law_post hs kids full (by intro t ht; exact of_decide_eq_true (List.all_eq_true.1 (show (Tryd.f4.params.toList.all fun t => decide (t < Tryd.prog.types.size)) = true by kernel_rfl) t ht)) hW0 rfl (t0 := 4) (by kernel_rfl) (by kernel_rfl) ?_⟩
    match ds, hlen with
    | [d1, d2], _ => exact ⟨rfl, rfl, rfl⟩

theorem objectFinds_reads (os : Os) {H : Type} (enc : TypeId × Value → H) : ∃ places, DataW.whole enc Tryd.prog ((laidWorld os).forCall (fun _ _ => 0) ⟨#[], #[.agg zO, .int .u64 0], []⟩).memory Tryd.f4.params.toList Rows.objectFindsSpec.vars false #[Value.agg zO, Value.int .u64 0].toList 8 = some ([dO, .lit (.int .u64 0)], [], places) :=
  ⟨[], by kernel_rfl⟩

set_option maxRecDepth 100000 in
theorem objectFinds_lifted (os : Os) (started : os.Started) (H : Type) (enc : TypeId × Value → H) (F : Stop.Interp) :
    ReturnsInHanded {} Tryd.checked os 4 .any ((Rows.OpenSpec.upto Rows.objectFindsSpec).preRow enc Tryd.prog Tryd.f4 Rows.objectFindsUptoRow.domain false Rows.objectFindsUptoRow.laid) (((Rows.OpenSpec.upto Rows.objectFindsSpec).at F).post enc Tryd.prog Tryd.f4 false true false false) := by
  obtain ⟨places, hx⟩ := objectFinds_reads os enc
  refine returnsInHanded_of_row (C := Tryd.checked) (s := Rows.OpenSpec.upto Rows.objectFindsSpec) own started (by kernel_rfl) Tryd.func4
    (witness_row_at (enc := enc) (C := Tryd.checked) false (laidWorld os) #[.agg zO, .int .u64 0] rfl (by kernel_rfl) (by kernel_rfl) (by kernel_rfl)
      (OpenSpec.preRow_of_cond 8 hx (by kernel_rfl) (fun k hk => by cases hk; kernel_rfl) (by kernel_rfl) (laid_met os _))) ?_
  intro W base args ds gs before hval hW _ hk _ hL _ _
  exact objectFinds_contract H enc W base args ds gs before hval hW (hk _ rfl) hL

theorem objectFindsRow_upto : Rows.ObjectFindsUptoSaid :=
  OpenClaim.holds_of_cond 4 Tryd.f4 rfl rfl rfl rfl rfl rfl rfl ⟨rfl, rfl, rfl, rfl, rfl⟩ rfl rfl rfl rfl rfl (by kernel_rfl) Tryd.func4 (by kernel_rfl)
    (of_decide_eq_true (by kernel_rfl)) (by unfold Func.isWrapper; first | (rw [if_pos (by decide +kernel)]; kernel_rfl) | (rw [if_neg (by decide +kernel)]; exact ⟨rfl, rfl⟩))
    (fun os started H enc _ F => by rw [OpenClaim.pre_eq_preRow]; exact objectFinds_lifted os started H enc F)

theorem objectFinds_plain (f : FuncId) (fn : Func) (hf : Tryd.pinned.checked.prog.funcNamed "chartulary/chartularylaw13.ObjectFinds" = some f) (hfn : Tryd.pinned.checked.prog.funcs[f]? = some fn) :
    false = Tryd.pinned.checked.prog.looks [] ∧ ∀ (j : Nat) t, fn.params[j]? = some t → Tryd.pinned.checked.prog.wantsStandIn t = false := by
  obtain rfl : f = 4 := Option.some.inj ((show Tryd.prog.funcNamed "chartulary/chartularylaw13.ObjectFinds" = some 4 by kernel_rfl).symm.trans hf) |>.symm
  obtain rfl : fn = Tryd.f4 := (Option.some.inj (Tryd.func4.symm.trans hfn)).symm
  refine ⟨by kernel_rfl, fun j t ht => ?_⟩
  rw [Tryd.params4] at ht
  have hm := Array.mem_of_getElem? ht
  have h : ∀ t ∈ (#[24, 25] : Array TypeId), Tryd.prog.wantsStandIn t = false := by
    have e : (#[24, 25] : Array TypeId).toList.all (fun t => Tryd.prog.wantsStandIn t == false) = true := by kernel_rfl
    intro t ht
    exact beq_iff_eq.1 (List.all_eq_true.1 e t (Array.mem_toList_iff.2 ht))
  exact h t hm

theorem objectFindsUpto : Rows.ObjectFindsUptoCardSaid :=
  Claim7.holds_tied_plain_at .later [] _ _ _ _ objectFindsRow_upto (fun _ h => by cases h) (by kernel_rfl) (fun _ h => by cases h) objectFindsUpto_row_tie rfl ⟨rfl, rfl⟩ (by kernel_rfl) rfl objectFinds_plain (by kernel_rfl)
end Go.Proofs.YtnlckhekcklcpaaDoor

