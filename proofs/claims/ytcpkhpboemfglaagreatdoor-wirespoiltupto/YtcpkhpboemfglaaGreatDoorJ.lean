/- WireSpoilt: bytes of a request of which some are missing, or that have some behind, are none: where what is read is of bulk at most 1048576; the card, tied: the two tables of unicode/utf8 hold what the program's text lays. -/
import Derived.Test.YtcpkhpboemfglaaGreatDoorP2
import Derived.Test.YtcpkhpboemfglaaGreatDoorF1
set_option linter.unusedVariables false
set_option linter.unusedSimpArgs false
namespace Go.Proofs.YtcpkhpboemfglaaGreatDoor
open Go Go.Va Go.Proofs Go.ChangeShapes Go.WideShapes Go.ChangeAt Go.RowKit
set_option maxRecDepth 100000 in
theorem wireSpoilt_contract (H:Type)(enc:TypeId×Value→H)(W:World)(base:Nat)(args:Array Value)(ds gs:List (DataW H))(before:List MemPlace)
    (hval:∀ (j:Nat) t v,Tryz.f10.params[j]?=some t→args[j]?=some v→Value.okWide Tryz.prog W .any base t v)
    (hW:DataW.Whole enc Tryz.prog Tryz.f10.params.toList Rows.wireSpoiltSpec.vars false W args.toList ds gs before) (hk:Rows.uptoSmall H (ds++gs)=true) (hL:laidMetH Tryz.prog Rows.wireSpoiltUptoRow.laid W) (hsh:W.ShapedOpen Tryz.prog) :
    Calls Tryz.prog 10 args W λe W'=>∃ v,e = .returned v∧Rows.wireSpoiltSpec.post enc Tryz.prog Tryz.f10 false true false false W args v W':=by
  have hb:=small_of hk
  have hW0:=hW
  have hT:Lib.Utf8Tabs 0 1 W:=tabs_of (fst_eq ▸ Lib.laidMet.reads hL (.tail _ (.head _))) (acc_eq ▸ Lib.laidMet.reads hL (.head _))
  obtain⟨p,q,hA,hV,_,_,_⟩:=hW
  have hlen:=(trodAll_length hA).2
  have hv2:∀ (i:Nat) (t:TypeId) (v:Value),Tryz.f10.params.toList[i]?=some t→args[i]?=some v→Value.okWide Tryz.prog W .any base t v:=λi t v hi hv=>hval i t v (getL hi) hv
  refine (law_calls (Ts:=[yas,.int .u16,.slice (.int .u8)]) (f:=λn v=>fRun (ybI.X n) n ybI.T Tryz.f10 ybI.ia ybI.io v) ybI.ok (by kernel_rfl) (tysB_ok (by kernel_rfl)) hA hv2 (gl_of hT hsh) (λv hw hv => ?_)).mono ?_
  · have hn:30000≤2097152:=by decide
    have hn2:2097152≤536870912:=by decide
    have h0:vol (yas) (v.1)<2097152:=by simp only[volD]at hv;omega
    have h2:vol (.slice (.int .u8)) (v.2.2.1)<2067152:=by simp only[volD]at hv;omega
    exact⟨2097152,(),show ybI.f 2097152 v.1 v.2.1 v.2.2.1=some (true,()) from lawWSpoilt hn hn2 (Q_ofW hw.1 h0) (u16_of hw.2.1) (B_ofW hw.2.2.1 h2)⟩
  · rintro e W' ⟨rfl,hs⟩
    refine⟨_,rfl,law_post hs kids full (by intro t ht;exact of_decide_eq_true (List.all_eq_true.1 (show (Tryz.f10.params.toList.all λt=>decide (t<Tryz.prog.types.size))=true by kernel_rfl) t ht)) hW0 rfl (t0:=4) (by kernel_rfl) (by kernel_rfl) ?_⟩
    match ds,hlen with
    | [d1,d2,d3],_=>exact⟨rfl,rfl,rfl⟩
theorem wireSpoilt_reads (os:Os){H:Type}(enc:TypeId×Value→H):∃ places,DataW.whole enc Tryz.prog ((laidWorld os).forCall (λ_ _=>0) ⟨#[],#[.agg zQ,.int .u16 0,.slice none 0 0],[]⟩).memory Tryz.f10.params.toList Rows.wireSpoiltSpec.vars false #[Value.agg zQ,Value.int .u16 0,Value.slice none 0 0].toList 8=some ([dQ,.lit (.int .u16 0),.nil],[],places):=
  ⟨[],by kernel_rfl⟩
set_option maxRecDepth 100000 in
theorem wireSpoilt_lifted (os:Os)(started:os.Started)(H:Type)(enc:TypeId×Value→H)(F:Stop.Interp) :
    ReturnsInHanded {} Tryz.checked os 10 .any ((Rows.OpenSpec.upto Rows.wireSpoiltSpec).preRow enc Tryz.prog Tryz.f10 Rows.wireSpoiltUptoRow.domain false Rows.wireSpoiltUptoRow.laid) (((Rows.OpenSpec.upto Rows.wireSpoiltSpec).at F).post enc Tryz.prog Tryz.f10 false true false false):=by
  obtain⟨places,hx⟩:=wireSpoilt_reads os enc
  refine returnsInHanded_of_row (C:=Tryz.checked) (s:=Rows.OpenSpec.upto Rows.wireSpoiltSpec) own started (by kernel_rfl) Tryz.func10
    (witness_row_at (enc:=enc) (C:=Tryz.checked) false (laidWorld os) #[.agg zQ,.int .u16 0,.slice none 0 0] rfl (by kernel_rfl) (by kernel_rfl) (by kernel_rfl)
      (OpenSpec.preRow_of_cond 8 hx (by kernel_rfl) (λk hk=>by cases hk;kernel_rfl) (by kernel_rfl) (laid_met os _))) ?_
  intro W base args ds gs before hval hW _ hk _ hL hsh _
  exact wireSpoilt_contract H enc W base args ds gs before hval hW (hk _ rfl) hL hsh
set_option maxHeartbeats 4000000 in
theorem wireSpoilt_closed:joinedFacts Tryz.pinned.checked.prog 10 Tryz.f10 (Rows.OpenSpec.upto Rows.wireSpoiltSpec).bare Rows.wireSpoiltUptoRow=true:=by
  unfold joinedFacts
  repeat' with_reducible apply and_i
  all_goals first | with_reducible exact factLaid | with_reducible exact factMaps | with_reducible exact factHeard | with_reducible exact factEnter | (as_aux_lemma=>kernel_rfl)
theorem wireSpoiltRow_upto:Rows.WireSpoiltUptoSaid:=
  OpenClaim.holds_of_cond 10 Tryz.f10 rfl rfl rfl rfl rfl rfl rfl ⟨rfl,rfl,rfl,rfl,rfl⟩ rfl rfl rfl rfl rfl (by kernel_rfl) Tryz.func10 wireSpoilt_closed
    (of_decide_eq_true (by kernel_rfl)) (by unfold Func.isWrapper;first | (rw[if_pos (by decide +kernel)];kernel_rfl) | (rw[if_neg (by decide +kernel)];exact⟨rfl,rfl⟩))
    (λos started H enc _ F=>by rw[OpenClaim.pre_eq_preRow];exact wireSpoilt_lifted os started H enc F)
theorem wireSpoilt_plain (f : FuncId) (fn : Func) (hf : Tryz.pinned.checked.prog.funcNamed "chartulary/chartularylaw26.WireSpoilt" = some f) (hfn : Tryz.pinned.checked.prog.funcs[f]? = some fn) :
    false=Tryz.pinned.checked.prog.looks []∧∀ (j:Nat) t,fn.params[j]?=some t→Tryz.pinned.checked.prog.wantsStandIn t=false:=by
  obtain rfl : f = 10 := Option.some.inj ((show Tryz.prog.funcNamed "chartulary/chartularylaw26.WireSpoilt" = some 10 by kernel_rfl).symm.trans hf) |>.symm
  obtain rfl:fn=Tryz.f10:=(Option.some.inj (Tryz.func10.symm.trans hfn)).symm
  refine⟨by kernel_rfl,λj t ht => ?_⟩
  rw[Tryz.params10]at ht
  have hm:=Array.mem_of_getElem? ht
  have h:∀ t∈(#[59,53,23]:Array TypeId),Tryz.prog.wantsStandIn t=false:=by
    have e:(#[59,53,23]:Array TypeId).toList.all (λt=>Tryz.prog.wantsStandIn t==false)=true:=by kernel_rfl
    intro t ht
    exact beq_iff_eq.1 (List.all_eq_true.1 e t (Array.mem_toList_iff.2 ht))
  exact h t hm
theorem wireSpoiltUpto:Rows.WireSpoiltUptoCardSaid:=
  Claim7.holds_tied_plain_at .later [] _ _ _ _ wireSpoiltRow_upto (λ_ h=>by cases h) (by kernel_rfl) (λ_ h=>by cases h) wireSpoiltUpto_row_tie rfl ⟨rfl,rfl⟩ (by kernel_rfl) rfl wireSpoilt_plain (by kernel_rfl)
end Go.Proofs.YtcpkhpboemfglaaGreatDoor

