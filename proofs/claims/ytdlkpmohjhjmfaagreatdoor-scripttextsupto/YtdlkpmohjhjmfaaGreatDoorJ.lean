/- ScriptTexts: any acts as a script, and read again: where what is read is of bulk at most 1048576; the card, tied: the tables and the two sentinels hold what the program's text lays. -/
import Derived.Test.YtdlkpmohjhjmfaaGreatDoorP2
import Derived.Test.YtdlkpmohjhjmfaaGreatDoorF1
set_option linter.unusedVariables false
set_option linter.unusedSimpArgs false
namespace Go.Proofs.YtdlkpmohjhjmfaaGreatDoor
open Go Go.Va Go.Proofs Go.ChangeShapes Go.WideShapes Go.ChangeAt Go.RowKit
set_option maxRecDepth 100000 in
theorem scriptTexts_contract (H:Type)(enc:TypeId×Value→H)(W:World)(base:Nat)(args:Array Value)(ds gs:List (DataW H))(before:List MemPlace)
  (hval:∀ (j:Nat) t v,Tryz.f7.params[j]?=some t→args[j]?=some v→Value.okWide Tryz.prog W .any base t v)
  (hW:DataW.Whole enc Tryz.prog Tryz.f7.params.toList Rows.scriptTextsSpec.vars false W args.toList ds gs before) (hk:Rows.uptoSmall H (ds++gs)=true) (hL:laidMetH Tryz.prog Rows.scriptTextsUptoRow.laid W) (hsh:W.ShapedOpen Tryz.prog) :
  Calls Tryz.prog 7 args W λe W'=>∃ v,e = .returned v∧Rows.scriptTextsSpec.post enc Tryz.prog Tryz.f7 false true false false W args v W':=by
 have hb:=small_of hk
 have hW0:=hW
 obtain⟨p,q,hA,hV,_,_,_⟩:=hW
 have hlen:=(trodAll_length hA).2
 have hv2:∀ (i:Nat) (t:TypeId) (v:Value),Tryz.f7.params.toList[i]?=some t→args[i]?=some v→Value.okWide Tryz.prog W .any base t v:=λi t v hi hv=>hval i t v (getL hi) hv
 refine (law_calls (Ts:=[.slice yaY]) (f:=λn v=>fRun (ya4.X n) n ya4.T Tryz.f7 ya4.ia ya4.io v) ya4.ok (by kernel_rfl) (tysB_ok (by kernel_rfl)) hA hv2 (gl_of (noHandle hL) hsh) (λv hw hv => ?_)).mono ?_
 ·have hn:300000≤2097152:=by decide
  have hn2:2097152≤1048576*4:=by decide
  have h0:vol (.slice yaY) (v.1)<2097152:=by simp only[volD]at hv;omega
  exact⟨2097152,(),show ya4.f 2097152 v.1=some (true,()) from (lawTexts hn hn2 (AL_ofW hw.1 h0).1 (AL_ofW hw.1 h0).2)⟩
 ·rintro e W' ⟨rfl,hs⟩
  refine⟨_,rfl,law_post hs kids full (by intro t ht;exact of_decide_eq_true (List.all_eq_true.1 (show (Tryz.f7.params.toList.all λt=>decide (t<Tryz.prog.types.size))=true by kernel_rfl) t ht)) hW0 rfl (t0:=4) (by kernel_rfl) (by kernel_rfl) ?_⟩
  match ds,hlen with
  | [d1],_=>exact⟨rfl,rfl,rfl⟩
theorem scriptTexts_reads (os:Os){H:Type}(enc:TypeId×Value→H):∃ places,DataW.whole enc Tryz.prog ((laidWorld os).forCall (λ_ _=>0) ⟨#[],#[.slice none 0 0],[]⟩).memory Tryz.f7.params.toList Rows.scriptTextsSpec.vars false #[Value.slice none 0 0].toList 8=some ([.nil],[],places):=
 ⟨[],by kernel_rfl⟩
set_option maxRecDepth 100000 in
theorem scriptTexts_lifted (os:Os)(started:os.Started)(H:Type)(enc:TypeId×Value→H)(F:Stop.Interp) :
  ReturnsInHanded {} Tryz.checked os 7 .any ((Rows.OpenSpec.upto Rows.scriptTextsSpec).preRow enc Tryz.prog Tryz.f7 Rows.scriptTextsUptoRow.domain false Rows.scriptTextsUptoRow.laid) (((Rows.OpenSpec.upto Rows.scriptTextsSpec).at F).post enc Tryz.prog Tryz.f7 false true false false):=by
 obtain⟨places,hx⟩:=scriptTexts_reads os enc
 refine returnsInHanded_of_row (C:=Tryz.checked) (s:=Rows.OpenSpec.upto Rows.scriptTextsSpec) own started (by kernel_rfl) Tryz.func7
  (witness_row_at (enc:=enc) (C:=Tryz.checked) false (laidWorld os) #[.slice none 0 0] rfl (by kernel_rfl) (by kernel_rfl) (by kernel_rfl)
   (OpenSpec.preRow_of_cond 8 hx (by kernel_rfl) (λk hk=>by cases hk;kernel_rfl) (by kernel_rfl) (laid_met os _))) ?_
 intro W base args ds gs before hval hW _ hk _ hL hsh _
 exact scriptTexts_contract H enc W base args ds gs before hval hW (hk _ rfl) hL hsh
set_option maxHeartbeats 4000000 in
theorem scriptTexts_closed:joinedFacts Tryz.pinned.checked.prog 7 Tryz.f7 (Rows.OpenSpec.upto Rows.scriptTextsSpec).bare Rows.scriptTextsUptoRow=true:=by
 unfold joinedFacts
 repeat' with_reducible apply and_i
 all_goals first | with_reducible exact factLaid | with_reducible exact factMaps | with_reducible exact factHeard | with_reducible exact factEnter | (as_aux_lemma=>kernel_rfl)
theorem scriptTextsRow_upto:Rows.ScriptTextsUptoSaid:=
 OpenClaim.holds_of_cond 7 Tryz.f7 rfl rfl rfl rfl rfl rfl rfl ⟨rfl,rfl,rfl,rfl,rfl⟩ rfl rfl rfl rfl rfl (by kernel_rfl) Tryz.func7 scriptTexts_closed
  (of_decide_eq_true (by kernel_rfl)) (by unfold Func.isWrapper;first | (rw[if_pos (by decide +kernel)];kernel_rfl) | (rw[if_neg (by decide +kernel)];exact⟨rfl,rfl⟩))
  (λos started H enc _ F=>by rw[OpenClaim.pre_eq_preRow];exact scriptTexts_lifted os started H enc F)
theorem scriptTexts_plain (f : FuncId) (fn : Func) (hf : Tryz.pinned.checked.prog.funcNamed "chartulary/chartularylaw30.ScriptTexts" = some f) (hfn : Tryz.pinned.checked.prog.funcs[f]? = some fn) :
  true=Tryz.pinned.checked.prog.looks []∧∀ (j:Nat) t,fn.params[j]?=some t→Tryz.pinned.checked.prog.wantsStandIn t=false:=by
 obtain rfl : f = 7 := Option.some.inj ((show Tryz.prog.funcNamed "chartulary/chartularylaw30.ScriptTexts" = some 7 by kernel_rfl).symm.trans hf) |>.symm
 obtain rfl:fn=Tryz.f7:=(Option.some.inj (Tryz.func7.symm.trans hfn)).symm
 refine⟨by kernel_rfl,λj t ht => ?_⟩
 rw[Tryz.params7]at ht
 have hm:=Array.mem_of_getElem? ht
 have h:∀ t∈(#[49]:Array TypeId),Tryz.prog.wantsStandIn t=false:=by
  have e:(#[49]:Array TypeId).toList.all (λt=>Tryz.prog.wantsStandIn t==false)=true:=by kernel_rfl
  intro t ht
  exact beq_iff_eq.1 (List.all_eq_true.1 e t (Array.mem_toList_iff.2 ht))
 exact h t hm
theorem scriptTextsUpto:Rows.ScriptTextsUptoCardSaid:=
 Claim7.holds_tied_plain_at .later [] _ _ _ _ scriptTextsRow_upto (λ_ h=>by cases h) (by kernel_rfl) (λ_ h=>by cases h) scriptTextsUpto_row_tie rfl ⟨rfl,rfl⟩ (by kernel_rfl) rfl scriptTexts_plain (by kernel_rfl)
end Go.Proofs.YtdlkpmohjhjmfaaGreatDoor
