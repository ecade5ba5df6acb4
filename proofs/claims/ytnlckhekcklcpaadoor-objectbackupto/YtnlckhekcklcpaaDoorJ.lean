/- ObjectBack: a version that is added and erased again leaves the object as it was; one that is changed to itself, too: where what is read is of bulk at most 1048576; the card, tied: the two tables of unicode/utf8 hold what the program's text lays. -/
import Derived.Test.YtnlckhekcklcpaaDoorP0
set_option linter.unusedVariables false
set_option linter.unusedSimpArgs false
namespace Go.Proofs.YtnlckhekcklcpaaDoor
open Go Go.Va Go.Proofs Go.ChangeShapes Go.WideShapes Go.ChangeAt Go.RowKit

theorem objectBack_contract (H : Type) (enc : TypeId × Value → H) (W : World) (base : Nat) (args : Array Value) (ds gs : List (DataW H)) (before : List MemPlace)
    (hval : ∀ (j : Nat) t v, Tryd.f7.params[j]? = some t → args[j]? = some v → Value.okWide Tryd.prog W .any base t v)
    (hW : DataW.Whole enc Tryd.prog Tryd.f7.params.toList Rows.objectBackSpec.vars false W args.toList ds gs before) (hk : Rows.uptoSmall H (ds ++ gs) = true) (hL : laidMetH Tryd.prog Rows.objectBackUptoRow.laid W) :
    Calls Tryd.prog 7 args W fun e W' => ∃ v, e = .returned v ∧ Rows.objectBackSpec.post enc Tryd.prog Tryd.f7 false true false false W args v W' := by
  have hb := small_of hk
  have hW0 := hW
  have hT : Lib.Utf8Tabs 0 1 W := tabs_of (fst_eq ▸ Lib.laidMet.reads hL (.tail _ (.head _))) (acc_eq ▸ Lib.laidMet.reads hL (.head _))
  obtain ⟨p, q, hA, hV, _, _, _⟩ := hW
  have hlen := (trodAll_length hA).2
  refine (law_calls (Ts := [t23, t31]) (f := fun n v => f7.f n v.1 v.2.1) f7.ok (by decide) (tysB_ok (by kernel_rfl)) hA (fun i t v hi hv => hval i t v (by simpa using hi) hv) (gl_of hT) (fun v hw hv => ?_)).mono ?_
  · have hn : 2097152 ≤ 536870912 := by decide
    have h5 : 40 ≤ 2097152 := by decide
    have h0 : vol (t23) (v.1) < 2097152 := by simp only [volD] at hv; omega
    have h1 : vol (t31) (v.2.1) < 2097152 := by simp only [volD] at hv; omega
    exact ⟨2097152, (), back_law hn h5 (OB_of hw.1 h0).1 (VB_of hw.2.1 h1) (OB_of hw.1 h0).2⟩
  · rintro e W' ⟨rfl, hs⟩
    refine ⟨_, rfl, law_post hs kids full (by intro t ht; exact of_decide_eq_true (List.all_eq_true.1 (show (Tryd.f7.params.toList.all fun t => decide (t < Tryd.prog.types.size)) = true by kernel_rfl) t ht)) hW0 rfl (t0 := 4) (by kernel_rfl) (by kernel_rfl) ?_⟩
    match ds, hlen with
    | [d1, d2], _ => exact ⟨rfl, rfl, rfl⟩

theorem objectBack_reads (os : Os) {H : Type} (enc : TypeId × Value → H) : ∃ places, DataW.whole enc Tryd.prog ((laidWorld os).forCall (fun _ _ => 0) ⟨#[], #[.agg zO, .agg zV], []⟩).memory Tryd.f7.params.toList Rows.objectBackSpec.vars false #[Value.agg zO, Value.agg zV].toList 8 = some ([dO, dV], [], places) :=
  ⟨[], by kernel_rfl⟩

set_option maxRecDepth 100000 in
theorem objectBack_lifted (os : Os) (started : os.Started) (H : Type) (enc : TypeId × Value → H) (F : Stop.Interp) :
    ReturnsInHanded {} Tryd.checked os 7 .any ((Rows.OpenSpec.upto Rows.objectBackSpec).preRow enc Tryd.prog Tryd.f7 Rows.objectBackUptoRow.domain false Rows.objectBackUptoRow.laid) (((Rows.OpenSpec.upto Rows.objectBackSpec).at F).post enc Tryd.prog Tryd.f7 false true false false) := by
  obtain ⟨places, hx⟩ := objectBack_reads os enc
  refine returnsInHanded_of_row (C := Tryd.checked) (s := Rows.OpenSpec.upto Rows.objectBackSpec) own started (by kernel_rfl) Tryd.func7
    (witness_row_at (enc := enc) (C := Tryd.checked) false (laidWorld os) #[.agg zO, .agg zV] rfl (by kernel_rfl) (by kernel_rfl) (by kernel_rfl)
      (OpenSpec.preRow_of_cond 8 hx (by kernel_rfl) (fun k hk => by cases hk; kernel_rfl) (by kernel_rfl) (laid_met os _))) ?_
  intro W base args ds gs before hval hW _ hk _ hL _ _
  exact objectBack_contract H enc W base args ds gs before hval hW (hk _ rfl) hL

theorem objectBackRow_upto : Rows.ObjectBackUptoSaid :=
  OpenClaim.holds_of_cond 7 Tryd.f7 rfl rfl rfl rfl rfl rfl rfl ⟨rfl, rfl, rfl, rfl, rfl⟩ rfl rfl rfl rfl rfl (by kernel_rfl) Tryd.func7 (by kernel_rfl)
    (of_decide_eq_true (by kernel_rfl)) (by unfold Func.isWrapper; first | (rw [if_pos (by decide +kernel)]; kernel_rfl) | (rw [if_neg (by decide +kernel)]; exact ⟨rfl, rfl⟩))
    (fun os started H enc _ F => by rw [OpenClaim.pre_eq_preRow]; exact objectBack_lifted os started H enc F)

theorem objectBack_plain (f : FuncId) (fn : Func) (hf : Tryd.pinned.checked.prog.funcNamed "chartulary/chartularylaw13.ObjectBack" = some f) (hfn : Tryd.pinned.checked.prog.funcs[f]? = some fn) :
    false = Tryd.pinned.checked.prog.looks [] ∧ ∀ (j : Nat) t, fn.params[j]? = some t → Tryd.pinned.checked.prog.wantsStandIn t = false := by
  obtain rfl : f = 7 := Option.some.inj ((show Tryd.prog.funcNamed "chartulary/chartularylaw13.ObjectBack" = some 7 by kernel_rfl).symm.trans hf) |>.symm
  obtain rfl : fn = Tryd.f7 := (Option.some.inj (Tryd.func7.symm.trans hfn)).symm
  refine ⟨by kernel_rfl, fun j t ht => ?_⟩
  rw [Tryd.params7] at ht
  have hm := Array.mem_of_getElem? ht
  have h : ∀ t ∈ (#[24, 32] : Array TypeId), Tryd.prog.wantsStandIn t = false := by
    have e : (#[24, 32] : Array TypeId).toList.all (fun t => Tryd.prog.wantsStandIn t == false) = true := by kernel_rfl
    intro t ht
    exact beq_iff_eq.1 (List.all_eq_true.1 e t (Array.mem_toList_iff.2 ht))
  exact h t hm

theorem objectBackUpto : Rows.ObjectBackUptoCardSaid :=
  Claim7.holds_tied_plain_at .later [] _ _ _ _ objectBackRow_upto (fun _ h => by cases h) (by kernel_rfl) (fun _ h => by cases h) objectBackUpto_row_tie rfl ⟨rfl, rfl⟩ (by kernel_rfl) rfl objectBack_plain (by kernel_rfl)
end Go.Proofs.YtnlckhekcklcpaaDoor

