/- MetaSame: whether any two states are one: where what is read is of bulk at most 1048576; the card, tied: the two tables of unicode/utf8 hold what the program's text lays. -/
import Derived.Test.YtdlgambebmchmaaGreatDoorP0
set_option linter.unusedVariables false
set_option linter.unusedSimpArgs false
namespace Go.Proofs.YtdlgambebmchmaaGreatDoor
open Go Go.Va Go.Proofs Go.ChangeShapes Go.WideShapes Go.ChangeAt Go.RowKit

set_option maxRecDepth 100000 in
theorem metaSame_contract (H : Type) (enc : TypeId × Value → H) (W : World) (base : Nat) (args : Array Value) (ds gs : List (DataW H)) (before : List MemPlace)
    (hval : ∀ (j : Nat) t v, Tryz.f6.params[j]? = some t → args[j]? = some v → Value.okWide Tryz.prog W .any base t v)
    (hW : DataW.Whole enc Tryz.prog Tryz.f6.params.toList Rows.metaSameSpec.vars false W args.toList ds gs before) (hk : Rows.uptoSmall H (ds ++ gs) = true) (hL : laidMetH Tryz.prog Rows.metaSameUptoRow.laid W) (hsh : W.ShapedOpen Tryz.prog) :
    Calls Tryz.prog 6 args W fun e W' => ∃ v, e = .returned v ∧ Rows.metaSameSpec.post enc Tryz.prog Tryz.f6 false true false false W args v W' := by
  have hb := small_of hk
  have hW0 := hW
  obtain ⟨p, q, hA, hV, _, _, _⟩ := hW
  have hlen := (trodAll_length hA).2
  have hv2 : ∀ (i : Nat) (t : TypeId) (v : Value), Tryz.f6.params.toList[i]? = some t → args[i]? = some v → Value.okWide Tryz.prog W .any base t v := fun i t v hi hv => hval i t v (getL hi) hv
  refine (law_calls (Ts := [T_api_State, T_api_State]) (f := fun n v => fRun (F_law15_MetaSame.X n) n F_law15_MetaSame.T Tryz.f6 F_law15_MetaSame.ia F_law15_MetaSame.io v) F_law15_MetaSame.ok (by kernel_rfl) (tysB_ok (by kernel_rfl)) hA hv2 ⟨fun _ h => (nomatch h), fun _ h => (nomatch h)⟩ (fun v hw hv => ?_)).mono ?_
  · have hn2 : 2097152 ≤ 536870912 := by decide
    have h0 : vol (T_api_State) (v.1) < 2097152 := by simp only [volD] at hv; omega
    have h1 : vol (T_api_State) (v.2.1) < 2097152 := by simp only [volD] at hv; omega
    exact ⟨2097152, (), show F_law15_MetaSame.f 2097152 v.1 v.2.1 = some (true, ()) from lawSame hn2 (St_of h0) (St_of h1)⟩
  · rintro e W' ⟨rfl, hs⟩
    refine ⟨_, rfl, law_post hs kids full (by intro t ht; exact of_decide_eq_true (List.all_eq_true.1 (show (Tryz.f6.params.toList.all fun t => decide (t < Tryz.prog.types.size)) = true by kernel_rfl) t ht)) hW0 rfl (t0 := 4) (by kernel_rfl) (by kernel_rfl) ?_⟩
    match ds, hlen with
    | [d1, d2], _ => exact ⟨rfl, rfl, rfl⟩

theorem metaSame_reads (os : Os) {H : Type} (enc : TypeId × Value → H) : ∃ places, DataW.whole enc Tryz.prog ((laidWorld os).forCall (fun _ _ => 0) ⟨#[], #[.agg zS, .agg zS], []⟩).memory Tryz.f6.params.toList Rows.metaSameSpec.vars false #[Value.agg zS, Value.agg zS].toList 8 = some ([dS, dS], [], places) :=
  ⟨[], by kernel_rfl⟩

set_option maxRecDepth 100000 in
theorem metaSame_lifted (os : Os) (started : os.Started) (H : Type) (enc : TypeId × Value → H) (F : Stop.Interp) :
    ReturnsInHanded {} Tryz.checked os 6 .any ((Rows.OpenSpec.upto Rows.metaSameSpec).preRow enc Tryz.prog Tryz.f6 Rows.metaSameUptoRow.domain false Rows.metaSameUptoRow.laid) (((Rows.OpenSpec.upto Rows.metaSameSpec).at F).post enc Tryz.prog Tryz.f6 false true false false) := by
  obtain ⟨places, hx⟩ := metaSame_reads os enc
  refine returnsInHanded_of_row (C := Tryz.checked) (s := Rows.OpenSpec.upto Rows.metaSameSpec) own started (by kernel_rfl) Tryz.func6
    (witness_row_at (enc := enc) (C := Tryz.checked) false (laidWorld os) #[.agg zS, .agg zS] rfl (by kernel_rfl) (by kernel_rfl) (by kernel_rfl)
      (OpenSpec.preRow_of_cond 8 hx (by kernel_rfl) (fun k hk => by cases hk; kernel_rfl) (by kernel_rfl) (laid_met os _))) ?_
  intro W base args ds gs before hval hW _ hk _ hL hsh _
  exact metaSame_contract H enc W base args ds gs before hval hW (hk _ rfl) hL hsh

set_option maxHeartbeats 4000000 in
theorem metaSame_closed : joinedFacts Tryz.pinned.checked.prog 6 Tryz.f6 (Rows.OpenSpec.upto Rows.metaSameSpec).bare Rows.metaSameUptoRow = true := by
  unfold joinedFacts
  repeat' with_reducible apply and_i
  all_goals first | with_reducible exact factLaid | with_reducible exact factMaps | with_reducible exact factHeard | with_reducible exact factEnter | (as_aux_lemma => kernel_rfl)

theorem metaSameRow_upto : Rows.MetaSameUptoSaid :=
  OpenClaim.holds_of_cond 6 Tryz.f6 rfl rfl rfl rfl rfl rfl rfl ⟨rfl, rfl, rfl, rfl, rfl⟩ rfl rfl rfl rfl rfl (by kernel_rfl) Tryz.func6 metaSame_closed
    (of_decide_eq_true (by kernel_rfl)) (by unfold Func.isWrapper; first | (rw [if_pos (by decide +kernel)]; kernel_rfl) | (rw [if_neg (by decide +kernel)]; exact ⟨rfl, rfl⟩))
    (fun os started H enc _ F => by rw [OpenClaim.pre_eq_preRow]; exact metaSame_lifted os started H enc F)

theorem metaSame_plain (f : FuncId) (fn : Func) (hf : Tryz.pinned.checked.prog.funcNamed "chartulary/chartularylaw15.MetaSame" = some f) (hfn : Tryz.pinned.checked.prog.funcs[f]? = some fn) :
    false = Tryz.pinned.checked.prog.looks [] ∧ ∀ (j : Nat) t, fn.params[j]? = some t → Tryz.pinned.checked.prog.wantsStandIn t = false := by
  obtain rfl : f = 6 := Option.some.inj ((show Tryz.prog.funcNamed "chartulary/chartularylaw15.MetaSame" = some 6 by kernel_rfl).symm.trans hf) |>.symm
  obtain rfl : fn = Tryz.f6 := (Option.some.inj (Tryz.func6.symm.trans hfn)).symm
  refine ⟨by kernel_rfl, fun j t ht => ?_⟩
  rw [Tryz.params6] at ht
  have hm := Array.mem_of_getElem? ht
  have h : ∀ t ∈ (#[25, 25] : Array TypeId), Tryz.prog.wantsStandIn t = false := by
    have e : (#[25, 25] : Array TypeId).toList.all (fun t => Tryz.prog.wantsStandIn t == false) = true := by kernel_rfl
    intro t ht
    exact beq_iff_eq.1 (List.all_eq_true.1 e t (Array.mem_toList_iff.2 ht))
  exact h t hm

theorem metaSameUpto : Rows.MetaSameUptoCardSaid :=
  Claim7.holds_tied_plain_at .later [] _ _ _ _ metaSameRow_upto (fun _ h => by cases h) (by kernel_rfl) (fun _ h => by cases h) metaSameUpto_row_tie rfl ⟨rfl, rfl⟩ (by kernel_rfl) rfl metaSame_plain (by kernel_rfl)
end Go.Proofs.YtdlgambebmchmaaGreatDoor

