/- MetaFinds: any bucket, object and version of any state; where all versions are: where what is read is of bulk at most 1048576; the card, tied: the two tables of unicode/utf8 hold what the program's text lays. -/
import Derived.Test.YtemhlkdingkjnaaGreatDoorF2
import Derived.Test.YtemhlkdingkjnaaGreatDoorF3
set_option linter.unusedVariables false
set_option linter.unusedSimpArgs false
namespace Go.Proofs.YtemhlkdingkjnaaGreatDoor
open Go Go.Va Go.Proofs Go.ChangeShapes Go.WideShapes Go.ChangeAt Go.RowKit
set_option maxRecDepth 100000 in
theorem metaFinds_contract (H:Type)(enc:TypeId×Value→H)(W:World)(base:Nat)(args:Array Value)(ds gs:List (DataW H))(before:List MemPlace)
    (hval:∀ (j:Nat) t v,Tryz.f3.params[j]?=some t→args[j]?=some v→Value.okWide Tryz.prog W .any base t v)
    (hW:DataW.Whole enc Tryz.prog Tryz.f3.params.toList Rows.metaFindsSpec.vars false W args.toList ds gs before) (hk:Rows.uptoSmall H (ds++gs)=true) (hL:laidMetH Tryz.prog Rows.metaFindsUptoRow.laid W) (hsh:W.ShapedOpen Tryz.prog) :
    Calls Tryz.prog 3 args W λe W'=>∃ v,e = .returned v∧Rows.metaFindsSpec.post enc Tryz.prog Tryz.f3 false true false false W args v W':=by
  have hb:=small_of hk
  have hW0:=hW
  obtain⟨p,q,hA,hV,_,_,_⟩:=hW
  have hlen:=(trodAll_length hA).2
  have hv2:∀ (i:Nat) (t:TypeId) (v:Value),Tryz.f3.params.toList[i]?=some t→args[i]?=some v→Value.okWide Tryz.prog W .any base t v:=λi t v hi hv=>hval i t v (getL hi) hv
  refine (law_calls (Ts:=[yah,yax]) (f:=λn v=>fRun (yaY.X n) n yaY.T Tryz.f3 yaY.ia yaY.io v) yaY.ok (by kernel_rfl) (tysB_ok (by kernel_rfl)) hA hv2 (gl_of (noHandle hL) hsh) (λv hw hv => ?_)).mono ?_
  · have hn2:2097152≤536870912:=by decide
    have hn:300≤2097152:=by decide
    have h0:vol (yah) (v.1)<2097152:=by simp only[volD]at hv;omega
    have h1:vol (yax) (v.2.1)<2097152:=by simp only[volD]at hv;omega
    exact⟨2097152,(),show yaY.f 2097152 v.1 v.2.1=some (true,()) from lawFinds hn (by decide) (S_of h0 hw.1) (rows_lt h0) _⟩
  · rintro e W' ⟨rfl,hs⟩
    refine⟨_,rfl,law_post hs kids full (by intro t ht;exact of_decide_eq_true (List.all_eq_true.1 (show (Tryz.f3.params.toList.all λt=>decide (t<Tryz.prog.types.size))=true by kernel_rfl) t ht)) hW0 rfl (t0:=4) (by kernel_rfl) (by kernel_rfl) ?_⟩
    match ds,hlen with
    | [d1,d2],_=>exact⟨rfl,rfl,rfl⟩
theorem metaFinds_reads (os:Os){H:Type}(enc:TypeId×Value→H):∃ places,DataW.whole enc Tryz.prog ((laidWorld os).forCall (λ_ _=>0) ⟨#[],#[.agg zS,.agg zP],[]⟩).memory Tryz.f3.params.toList Rows.metaFindsSpec.vars false #[Value.agg zS,Value.agg zP].toList 8=some ([dS,dP],[],places):=
  ⟨[],by kernel_rfl⟩
set_option maxRecDepth 100000 in
theorem metaFinds_lifted (os:Os)(started:os.Started)(H:Type)(enc:TypeId×Value→H)(F:Stop.Interp) :
    ReturnsInHanded {} Tryz.checked os 3 .any ((Rows.OpenSpec.upto Rows.metaFindsSpec).preRow enc Tryz.prog Tryz.f3 Rows.metaFindsUptoRow.domain false Rows.metaFindsUptoRow.laid) (((Rows.OpenSpec.upto Rows.metaFindsSpec).at F).post enc Tryz.prog Tryz.f3 false true false false):=by
  obtain⟨places,hx⟩:=metaFinds_reads os enc
  refine returnsInHanded_of_row (C:=Tryz.checked) (s:=Rows.OpenSpec.upto Rows.metaFindsSpec) own started (by kernel_rfl) Tryz.func3
    (witness_row_at (enc:=enc) (C:=Tryz.checked) false (laidWorld os) #[.agg zS,.agg zP] rfl (by kernel_rfl) (by kernel_rfl) (by kernel_rfl)
      (OpenSpec.preRow_of_cond 8 hx (by kernel_rfl) (λk hk=>by cases hk;kernel_rfl) (by kernel_rfl) (laid_met os _))) ?_
  intro W base args ds gs before hval hW _ hk _ hL hsh _
  exact metaFinds_contract H enc W base args ds gs before hval hW (hk _ rfl) hL hsh
set_option maxHeartbeats 4000000 in
theorem metaFinds_closed:joinedFacts Tryz.pinned.checked.prog 3 Tryz.f3 (Rows.OpenSpec.upto Rows.metaFindsSpec).bare Rows.metaFindsUptoRow=true:=by
  unfold joinedFacts
  repeat' with_reducible apply and_i
  all_goals first | with_reducible exact factLaid | with_reducible exact factMaps | with_reducible exact factHeard | with_reducible exact factEnter | (as_aux_lemma=>kernel_rfl)
theorem metaFindsRow_upto:Rows.MetaFindsUptoSaid:=
  OpenClaim.holds_of_cond 3 Tryz.f3 rfl rfl rfl rfl rfl rfl rfl ⟨rfl,rfl,rfl,rfl,rfl⟩ rfl rfl rfl rfl rfl (by kernel_rfl) Tryz.func3 metaFinds_closed
    (of_decide_eq_true (by kernel_rfl)) (by unfold Func.isWrapper;first | (rw[if_pos (by decide +kernel)];kernel_rfl) | (rw[if_neg (by decide +kernel)];exact⟨rfl,rfl⟩))
    (λos started H enc _ F=>by rw[OpenClaim.pre_eq_preRow];exact metaFinds_lifted os started H enc F)
theorem metaFinds_plain (f : FuncId) (fn : Func) (hf : Tryz.pinned.checked.prog.funcNamed "chartulary/chartularylaw15.MetaFinds" = some f) (hfn : Tryz.pinned.checked.prog.funcs[f]? = some fn) :
    false=Tryz.pinned.checked.prog.looks []∧∀ (j:Nat) t,fn.params[j]?=some t→Tryz.pinned.checked.prog.wantsStandIn t=false:=by
  obtain rfl : f = 3 := Option.some.inj ((show Tryz.prog.funcNamed "chartulary/chartularylaw15.MetaFinds" = some 3 by kernel_rfl).symm.trans hf) |>.symm
  obtain rfl:fn=Tryz.f3:=(Option.some.inj (Tryz.func3.symm.trans hfn)).symm
  refine⟨by kernel_rfl,λj t ht => ?_⟩
  rw[Tryz.params3]at ht
  have hm:=Array.mem_of_getElem? ht
  have h:∀ t∈(#[25,27]:Array TypeId),Tryz.prog.wantsStandIn t=false:=by
    have e:(#[25,27]:Array TypeId).toList.all (λt=>Tryz.prog.wantsStandIn t==false)=true:=by kernel_rfl
    intro t ht
    exact beq_iff_eq.1 (List.all_eq_true.1 e t (Array.mem_toList_iff.2 ht))
  exact h t hm
end Go.Proofs.YtemhlkdingkjnaaGreatDoor
