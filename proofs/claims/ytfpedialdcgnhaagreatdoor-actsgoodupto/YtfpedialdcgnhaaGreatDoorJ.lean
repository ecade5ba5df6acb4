/- ActsGood: whether anything is a request, and what it may need: where what is read is of bulk at most 1048576; the card, tied: the two tables of unicode/utf8 hold what the program's text lays. -/
import Derived.Test.YtfpedialdcgnhaaGreatDoorP1
import Derived.Test.YtfpedialdcgnhaaGreatDoorF0
set_option linter.unusedVariables false
set_option linter.unusedSimpArgs false
namespace Go.Proofs.YtfpedialdcgnhaaGreatDoor
open Go Go.Va Go.Proofs Go.ChangeShapes Go.WideShapes Go.ChangeAt Go.RowKit
set_option maxRecDepth 100000 in
theorem actsGood_contract (H : Type) (enc : TypeId × Value → H) (W : World) (base : Nat) (args : Array Value) (ds gs : List (DataW H)) (before : List MemPlace)
    (hval : ∀ (j : Nat) t v, Tryz.f3.params[j]? = some t → args[j]? = some v → Value.okWide Tryz.prog W .any base t v)
    (hW : DataW.Whole enc Tryz.prog Tryz.f3.params.toList Rows.actsGoodSpec.vars false W args.toList ds gs before) (hk : Rows.uptoSmall H (ds ++ gs) = true) (hL : laidMetH Tryz.prog Rows.actsGoodUptoRow.laid W) (hsh : W.ShapedOpen Tryz.prog) :
    Calls Tryz.prog 3 args W fun e W' => ∃ v, e = .returned v ∧ Rows.actsGoodSpec.post enc Tryz.prog Tryz.f3 false true false false W args v W' := by
  have hb := small_of hk
  have hW0 := hW
  obtain ⟨p, q, hA, hV, _, _, _⟩ := hW
  have hlen := (trodAll_length hA).2
  have hv2 : ∀ (i : Nat) (t : TypeId) (v : Value), Tryz.f3.params.toList[i]? = some t → args[i]? = some v → Value.okWide Tryz.prog W .any base t v := fun i t v hi hv => hval i t v (getL hi) hv
  refine (law_calls (Ts := [T_api_Request, T_api_State, .int .i64]) (f := fun n v => fRun (F_law24_ActsGood.X n) n F_law24_ActsGood.T Tryz.f3 F_law24_ActsGood.ia F_law24_ActsGood.io v) F_law24_ActsGood.ok (by kernel_rfl) (tysB_ok (by kernel_rfl)) hA hv2 (gl_of (noHandle hL) hsh) (fun v hw hv => ?_)).mono ?_
  · have hn : 300 ≤ 2097152 := by decide
    have hn2 : 2097152 ≤ 536870912 := by decide
    have h0 : vol (T_api_Request) (v.1) < 2097152 := by simp only [volD] at hv; omega
    exact ⟨2097152, (), show F_law24_ActsGood.f 2097152 v.1 v.2.1 v.2.2.1 = some (true, ()) from lawGood hn hn2 (Q_room hw.1 h0) v.2.1 v.2.2.1⟩
  · rintro e W' ⟨rfl, hs⟩
    refine ⟨_, rfl, law_post hs kids full (by intro t ht; exact of_decide_eq_true (List.all_eq_true.1 (show (Tryz.f3.params.toList.all fun t => decide (t < Tryz.prog.types.size)) = true by kernel_rfl) t ht)) hW0 rfl (t0 := 4) (by kernel_rfl) (by kernel_rfl) ?_⟩
    match ds, hlen with
    | [d1, d2, d3], _ => exact ⟨rfl, rfl, rfl⟩
theorem actsGood_reads (os : Os) {H : Type} (enc : TypeId × Value → H) : ∃ places, DataW.whole enc Tryz.prog ((laidWorld os).forCall (fun _ _ => 0) ⟨#[], #[.agg zQ, .agg zS, .int .i64 0], []⟩).memory Tryz.f3.params.toList Rows.actsGoodSpec.vars false #[Value.agg zQ, Value.agg zS, Value.int .i64 0].toList 8 = some ([dQ, dS, .lit (.int .i64 0)], [], places) :=
  ⟨[], by kernel_rfl⟩
set_option maxRecDepth 100000 in
theorem actsGood_lifted (os : Os) (started : os.Started) (H : Type) (enc : TypeId × Value → H) (F : Stop.Interp) :
    ReturnsInHanded {} Tryz.checked os 3 .any ((Rows.OpenSpec.upto Rows.actsGoodSpec).preRow enc Tryz.prog Tryz.f3 Rows.actsGoodUptoRow.domain false Rows.actsGoodUptoRow.laid) (((Rows.OpenSpec.upto Rows.actsGoodSpec).at F).post enc Tryz.prog Tryz.f3 false true false false) := by
  obtain ⟨places, hx⟩ := actsGood_reads os enc
  refine returnsInHanded_of_row (C := Tryz.checked) (s := Rows.OpenSpec.upto Rows.actsGoodSpec) own started (by kernel_rfl) Tryz.func3
    (witness_row_at (enc := enc) (C := Tryz.checked) false (laidWorld os) #[.agg zQ, .agg zS, .int .i64 0] rfl (by kernel_rfl) (by kernel_rfl) (by kernel_rfl)
      (OpenSpec.preRow_of_cond 8 hx (by kernel_rfl) (fun k hk => by cases hk; kernel_rfl) (by kernel_rfl) (laid_met os _))) ?_
  intro W base args ds gs before hval hW _ hk _ hL hsh _
  exact actsGood_contract H enc W base args ds gs before hval hW (hk _ rfl) hL hsh
set_option maxHeartbeats 4000000 in
theorem actsGood_closed : joinedFacts Tryz.pinned.checked.prog 3 Tryz.f3 (Rows.OpenSpec.upto Rows.actsGoodSpec).bare Rows.actsGoodUptoRow = true := by
  unfold joinedFacts
  repeat' with_reducible apply and_i
  all_goals first | with_reducible exact factLaid | with_reducible exact factMaps | with_reducible exact factHeard | with_reducible exact factEnter | (as_aux_lemma => kernel_rfl)
theorem actsGoodRow_upto : Rows.ActsGoodUptoSaid :=
  OpenClaim.holds_of_cond 3 Tryz.f3 rfl rfl rfl rfl rfl rfl rfl ⟨rfl, rfl, rfl, rfl, rfl⟩ rfl rfl rfl rfl rfl (by kernel_rfl) Tryz.func3 actsGood_closed
    (of_decide_eq_true (by kernel_rfl)) (by unfold Func.isWrapper; first | (rw [if_pos (by decide +kernel)]; kernel_rfl) | (rw [if_neg (by decide +kernel)]; exact ⟨rfl, rfl⟩))
    (fun os started H enc _ F => by rw [OpenClaim.pre_eq_preRow]; exact actsGood_lifted os started H enc F)
theorem actsGood_plain (f : FuncId) (fn : Func) (hf : Tryz.pinned.checked.prog.funcNamed "chartulary/chartularylaw24.ActsGood" = some f) (hfn : Tryz.pinned.checked.prog.funcs[f]? = some fn) :
    false = Tryz.pinned.checked.prog.looks [] ∧ ∀ (j : Nat) t, fn.params[j]? = some t → Tryz.pinned.checked.prog.wantsStandIn t = false := by
  obtain rfl : f = 3 := Option.some.inj ((show Tryz.prog.funcNamed "chartulary/chartularylaw24.ActsGood" = some 3 by kernel_rfl).symm.trans hf) |>.symm
  obtain rfl : fn = Tryz.f3 := (Option.some.inj (Tryz.func3.symm.trans hfn)).symm
  refine ⟨by kernel_rfl, fun j t ht => ?_⟩
  rw [Tryz.params3] at ht
  have hm := Array.mem_of_getElem? ht
  have h : ∀ t ∈ (#[35, 38, 2] : Array TypeId), Tryz.prog.wantsStandIn t = false := by
    have e : (#[35, 38, 2] : Array TypeId).toList.all (fun t => Tryz.prog.wantsStandIn t == false) = true := by kernel_rfl
    intro t ht
    exact beq_iff_eq.1 (List.all_eq_true.1 e t (Array.mem_toList_iff.2 ht))
  exact h t hm
theorem actsGoodUpto : Rows.ActsGoodUptoCardSaid :=
  Claim7.holds_tied_plain_at .later [] _ _ _ _ actsGoodRow_upto (fun _ h => by cases h) (by kernel_rfl) (fun _ h => by cases h) actsGoodUpto_row_tie rfl ⟨rfl, rfl⟩ (by kernel_rfl) rfl actsGood_plain (by kernel_rfl)
end Go.Proofs.YtfpedialdcgnhaaGreatDoor
