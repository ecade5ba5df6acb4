/- ScriptLines: any act as a line: where what is read is of bulk at most 1048576; the card, tied: the tables and the two sentinels hold what the program's text lays. -/
import Derived.Test.YtdlkpmohjhjmfaaGreatDoorP2
import Derived.Test.YtdlkpmohjhjmfaaGreatDoorF1
set_option linter.unusedVariables false
set_option linter.unusedSimpArgs false
namespace Go.Proofs.YtdlkpmohjhjmfaaGreatDoor
open Go Go.Va Go.Proofs Go.ChangeShapes Go.WideShapes Go.ChangeAt Go.RowKit
set_option maxRecDepth 100000 in
theorem scriptLines_contract (H:Type)(enc:TypeId×Value→H)(W:World)(base:Nat)(args:Array Value)(ds gs:List (DataW H))(before:List MemPlace)
  (hval:∀ (j:Nat) t v,Tryz.f3.params[j]?=some t→args[j]?=some v→Value.okWide Tryz.prog W .any base t v)
  (hW:DataW.Whole enc Tryz.prog Tryz.f3.params.toList Rows.scriptLinesSpec.vars false W args.toList ds gs before) (hk:Rows.uptoSmall H (ds++gs)=true) (hL:laidMetH Tryz.prog Rows.scriptLinesUptoRow.laid W) (hsh:W.ShapedOpen Tryz.prog) :
  Calls Tryz.prog 3 args W λe W'=>∃ v,e = .returned v∧Rows.scriptLinesSpec.post enc Tryz.prog Tryz.f3 false true false false W args v W':=by
 have hb:=small_of hk
 have hW0:=hW
 obtain⟨p,q,hA,hV,_,_,_⟩:=hW
 have hlen:=(trodAll_length hA).2
 have hv2:∀ (i:Nat) (t:TypeId) (v:Value),Tryz.f3.params.toList[i]?=some t→args[i]?=some v→Value.okWide Tryz.prog W .any base t v:=λi t v hi hv=>hval i t v (getL hi) hv
 refine (law_calls (Ts:=[ybd]) (f:=λn v=>fRun (yci.X n) n yci.T Tryz.f3 yci.ia yci.io v) yci.ok (by kernel_rfl) (tysB_ok (by kernel_rfl)) hA hv2 (gl_of (noHandle hL) hsh) (λv hw hv => ?_)).mono ?_
 ·have hn:300000≤2097152:=by decide
  have hn2:2097152≤1048576*4:=by decide
  have h0:vol (ybd) (v.1)<2097152:=by simp only[volD]at hv;omega
  exact⟨2097152,(),show yci.f 2097152 v.1=some (true,()) from lawLines hn hn2 (A_ofW hw.1 h0)⟩
 ·rintro e W' ⟨rfl,hs⟩
  refine⟨_,rfl,law_post hs kids full (by intro t ht;exact of_decide_eq_true (List.all_eq_true.1 (show (Tryz.f3.params.toList.all λt=>decide (t<Tryz.prog.types.size))=true by kernel_rfl) t ht)) hW0 rfl (t0:=4) (by kernel_rfl) (by kernel_rfl) ?_⟩
  match ds,hlen with
  | [d1],_=>exact⟨rfl,rfl,rfl⟩
theorem scriptLines_reads (os:Os){H:Type}(enc:TypeId×Value→H):∃ places,DataW.whole enc Tryz.prog ((laidWorld os).forCall (λ_ _=>0) ⟨#[],#[.agg zA],[]⟩).memory Tryz.f3.params.toList Rows.scriptLinesSpec.vars false #[Value.agg zA].toList 8=some ([dA],[],places):=
 ⟨[],by kernel_rfl⟩
set_option maxRecDepth 100000 in
theorem scriptLines_lifted (os:Os)(started:os.Started)(H:Type)(enc:TypeId×Value→H)(F:Stop.Interp) :
  ReturnsInHanded {} Tryz.checked os 3 .any ((Rows.OpenSpec.upto Rows.scriptLinesSpec).preRow enc Tryz.prog Tryz.f3 Rows.scriptLinesUptoRow.domain false Rows.scriptLinesUptoRow.laid) (((Rows.OpenSpec.upto Rows.scriptLinesSpec).at F).post enc Tryz.prog Tryz.f3 false true false false):=by
 obtain⟨places,hx⟩:=scriptLines_reads os enc
 refine returnsInHanded_of_row (C:=Tryz.checked) (s:=Rows.OpenSpec.upto Rows.scriptLinesSpec) own started (by kernel_rfl) Tryz.func3
  (witness_row_at (enc:=enc) (C:=Tryz.checked) false (laidWorld os) #[.agg zA] rfl (by kernel_rfl) (by kernel_rfl) (by kernel_rfl)
   (OpenSpec.preRow_of_cond 8 hx (by kernel_rfl) (λk hk=>by cases hk;kernel_rfl) (by kernel_rfl) (laid_met os _))) ?_
 intro W base args ds gs before hval hW _ hk _ hL hsh _
 exact scriptLines_contract H enc W base args ds gs before hval hW (hk _ rfl) hL hsh
set_option maxHeartbeats 4000000 in
theorem scriptLines_closed:joinedFacts Tryz.pinned.checked.prog 3 Tryz.f3 (Rows.OpenSpec.upto Rows.scriptLinesSpec).bare Rows.scriptLinesUptoRow=true:=by
 unfold joinedFacts
 repeat' with_reducible apply and_i
 all_goals first | with_reducible exact factLaid | with_reducible exact factMaps | with_reducible exact factHeard | with_reducible exact factEnter | (as_aux_lemma=>kernel_rfl)
theorem scriptLinesRow_upto:Rows.ScriptLinesUptoSaid:=
 OpenClaim.holds_of_cond 3 Tryz.f3 rfl rfl rfl rfl rfl rfl rfl ⟨rfl,rfl,rfl,rfl,rfl⟩ rfl rfl rfl rfl rfl (by kernel_rfl) Tryz.func3 scriptLines_closed
  (of_decide_eq_true (by kernel_rfl)) (by unfold Func.isWrapper;first | (rw[if_pos (by decide +kernel)];kernel_rfl) | (rw[if_neg (by decide +kernel)];exact⟨rfl,rfl⟩))
  (λos started H enc _ F=>by rw[OpenClaim.pre_eq_preRow];exact scriptLines_lifted os started H enc F)
theorem scriptLines_plain (f : FuncId) (fn : Func) (hf : Tryz.pinned.checked.prog.funcNamed "chartulary/chartularylaw30.ScriptLines" = some f) (hfn : Tryz.pinned.checked.prog.funcs[f]? = some fn) :
  true=Tryz.pinned.checked.prog.looks []∧∀ (j:Nat) t,fn.params[j]?=some t→Tryz.pinned.checked.prog.wantsStandIn t=false:=by
 obtain rfl : f = 3 := Option.some.inj ((show Tryz.prog.funcNamed "chartulary/chartularylaw30.ScriptLines" = some 3 by kernel_rfl).symm.trans hf) |>.symm
 obtain rfl:fn=Tryz.f3:=(Option.some.inj (Tryz.func3.symm.trans hfn)).symm
 refine⟨by kernel_rfl,λj t ht => ?_⟩
 rw[Tryz.params3]at ht
 have hm:=Array.mem_of_getElem? ht
 have h:∀ t∈(#[37]:Array TypeId),Tryz.prog.wantsStandIn t=false:=by
  have e:(#[37]:Array TypeId).toList.all (λt=>Tryz.prog.wantsStandIn t==false)=true:=by kernel_rfl
  intro t ht
  exact beq_iff_eq.1 (List.all_eq_true.1 e t (Array.mem_toList_iff.2 ht))
 exact h t hm
theorem scriptLinesUpto:Rows.ScriptLinesUptoCardSaid:=
 Claim7.holds_tied_plain_at .later [] _ _ _ _ scriptLinesRow_upto (λ_ h=>by cases h) (by kernel_rfl) (λ_ h=>by cases h) scriptLinesUpto_row_tie rfl ⟨rfl,rfl⟩ (by kernel_rfl) rfl scriptLines_plain (by kernel_rfl)
end Go.Proofs.YtdlkpmohjhjmfaaGreatDoor

