/-
  Co, part 11: all operations; functions; what a run says.
-/
import Derived.Test.YtemhlkdingkjnaaGreatDoorCoAll
set_option linter.unusedVariables false
set_option linter.unusedSimpArgs false
namespace Go.Co
open Go
open Go.Va (Grow getAt setAt ybI ybC NoFr Ty TE findT TabOk TyIs zc ybl Wr At Keep Gl Ex cvt)
section
variable {P:Program} {R:Type} {r:R} {tab:List (Nat×TE)} {o:Oper} {ev:Operand→AV} {h:Hs} {k:AV→Hs→Option R} {call:CallF R} {xt:FuncId→Option (Array Value→Sem Value)}
theorem ok_cOp [Gl] (hT:TabOk P tab) (hX:XtOk P xt) (hc:CallsOk P call) (hk:cOp P tab xt call h k o ev=some r):∃ v h',k v h'=some r∧SOk P o ev h v h':=by
  unfold cOp at hk
  split at hk
  case h_1 x ho=>
    exact⟨_,_,hk,SOk.pure (λP0 E look w ρ hh hv=>⟨ρ x,by unfold execOp;rw[ho];rfl,hv x (opnd ho (by simp[Op.operands]))⟩)⟩
  case h_2 x ho=>
    exact⟨_,_,hk,SOk.pure (λP0 E look w ρ hh hv=>⟨ρ x,by unfold execOp;rw[ho];rfl,hv x (opnd ho (by simp[Op.operands]))⟩)⟩
  case h_3 c a b ho=>
    split at hk
    · rename_i hcv
      refine⟨_,_,hk,SOk.pure (λP0 E look w ρ hh hv=>⟨ρ a,?_,hv a (opnd ho (by simp[Op.operands]))⟩)⟩
      have h1:=hv c (opnd ho (by simp[Op.operands]))
      rw[hcv]at h1
      unfold execOp;rw[ho]
      simp only[V_val.1 h1,asBool,Sem.run_bind,Sem.run_pure,Result.andThen_ok,if_true]
    · rename_i hcv
      refine⟨_,_,hk,SOk.pure (λP0 E look w ρ hh hv=>⟨ρ b,?_,hv b (opnd ho (by simp[Op.operands]))⟩)⟩
      have h1:=hv c (opnd ho (by simp[Op.operands]))
      rw[hcv]at h1
      unfold execOp;rw[ho]
      simp only[V_val.1 h1,asBool,Sem.run_bind,Sem.run_pure,Result.andThen_ok,Bool.false_eq_true,if_false]
    · exact nomatch hk
  case h_4 t ho=>exact ok_alloc hT ho hk
  case h_5 t x ho=>exact ok_box ho hk
  case h_6 t x ho=>exact ok_load hT ho hk
  case h_7 t a x ho=>exact ok_store hT ho hk
  case h_8 t x j ho=>exact ok_fieldAddr hT ho hk
  case h_9 t x j ho=>exact ok_field hT ho hk
  case h_10 t x i ho=>exact ok_indexAddr hT ho hk
  case h_11 t x lo hi mx ho=>exact ok_slice hT ho hk
  case h_12 t ps ho=>exact ok_build hT ho hk
  case h_13 t n ps ho=>exact ok_buildSlice hT ho hk
  case h_14 t res ho=>exact ok_makeMap ho hk
  case h_15 s d x ho=>exact ok_conv hT ho hk
  case h_16 t l m ho=>exact ok_makeSlice hT ho hk
  case h_17 t x y ok ho=>exact ok_lookup ho hk
  case h_18 t x y z ho=>exact ok_update (.inl ho) hk
  case h_19 t x y z ho=>exact ok_update (.inr ho) hk
  case h_20 t x y ho=>exact ok_entry ho hk
  case h_21 t x y z ho=>exact ok_entryStore ho hk
  case h_22 f first caps ho=>
    refine⟨_,_,hk,SOk.pure (λP0 E look w ρ hh hv=>⟨.func f (first.map ρ) (caps.map ρ),?_,_,_,rfl,?_,?_⟩)⟩
    · unfold execOp;rw[ho];rfl
    · rw[Array.toList_map];exact C_args _ (λx hx=>hv x (opnd ho (by simp only[Op.operands,Array.toList_append,List.mem_append];exact .inl hx)))
    · rw[Array.toList_map];exact C_args _ (λx hx=>hv x (opnd ho (by simp only[Op.operands,Array.toList_append,List.mem_append];exact .inr hx)))
  case h_23 x ho=>
    split at hk
    · rename_i q off hx
      refine⟨_,_,hk,SOk.pure (λP0 E look w ρ hh hv => ?_)⟩
      have h1:=hv x (opnd ho (by simp[Op.operands]))
      rw[hx]at h1
      obtain⟨b,n,hE,he⟩:=h1
      injection he with he _
      refine⟨_,?_,b,n,hE,rfl⟩
      unfold execOp;rw[ho]
      simp only[he];rfl
    · rename_i g a b hx
      refine⟨_,_,hk,SOk.pure (λP0 E look w ρ hh hv => ?_)⟩
      have h1:=hv x (opnd ho (by simp[Op.operands]))
      rw[hx]at h1
      obtain⟨a1,a2,he,c1,c2⟩:=h1
      injection he with he _
      refine⟨.func (.func g) a1 a2,?_,a1,a2,rfl,c1,c2⟩
      unfold execOp;rw[ho]
      simp only[he];rfl
    · exact nomatch hk
  case h_24 x i ho=>
    split at hk
    · rename_i l hx
      split at hk
      · rename_i l1 v l2 h1 h2
        refine⟨_,_,hk,SOk.pure (λP0 E look w ρ hh hv => ?_)⟩
        have hxv:=hv x (opnd ho (by simp[Op.operands]))
        rw[hx]at hxv
        obtain⟨a,he,hl⟩:=hxv
        injection he with he _
        obtain⟨g1,g2⟩:=C_skip l i _ _ h2 hl
        obtain⟨y,rest,e1,e2,_⟩:=g1
        refine⟨y,?_,e2⟩
        have hget:a[i]?=some y:=by
          rw[← Array.getElem?_toList]
          have:(a.toList.drop i)[0]?=some y:=by rw[e1];rfl
          rw[List.getElem?_drop,Nat.add_zero]at this;exact this
        unfold execOp;rw[ho]
        simp only[he,Instr.extract,hget,Sem.run_bind,Sem.run_pure,Result.andThen_ok]
      · exact nomatch hk
    · exact nomatch hk
  case h_25 t x ho=>
    split at hk
    · exact nomatch hk
    · rename_i d hnot hu
      refine⟨_,_,hk,SOk.pure (λP0 E look w ρ hh hv=>⟨.iface t (ρ x),?_,_,rfl,hv x (opnd ho (by simp[Op.operands]))⟩)⟩
      unfold execOp;rw[ho]
      simp only[Instr.makeInterface,Sem.run_bind,Va.run_underlying hu,Result.andThen_ok]
      rfl
    · exact nomatch hk
  case h_26 bo t x y t' ho=>exact ok_nil ho hk
  case h_27 q ho=>
    split at hk
    · rename_i f hq
      split at hk
      · exact ok_ext hX ho hq hk
      · exact ok_call hc ho hq hk
    · rename_i b hq
      split at hk
      · rename_i t t2 x y hts ha;exact ok_append hT ho hq ha hts hk
      · rename_i t x hts ha;exact ok_len hT ho hq ha hts hk
      · rename_i t t2 x y hts ha;exact ok_copy hT ho hq ha hts hk
      · exact nomatch hk
    · exact nomatch hk
  case h_28=>exact nomatch hk
theorem aOp_ok [Gl](hT:TabOk P tab)(hX:XtOk P xt)(hc:CallsOk P call):OpOk P (aOp P tab xt call):=by
  intro o ev h k r hk
  unfold aOp at hk
  rcases viaPure_ok hk with h1 | h1
  · exact h1
  · exact ok_cOp hT hX hc h1
theorem load_ok {t:TypeId} {a:AV} (hT:TabOk P tab) (hk:cLoad tab h k t a=some r):∃ v q,k v ⟨h.H,h.nx,q::h.rl,h.wl⟩=some r ∧
    ∀ P0 E look w y,HREL P0 E look w→look q=h.look q→V E a y→∃ x,(do loadVar t (← asAddr y):Sem Value).run P w = .ok x w∧V E v x:=by
  unfold cLoad at hk
  split at hk
  · rename_i te ht
    obtain⟨htT,_⟩:=hT t te ht
    split at hk
    · rename_i q off
      split at hk
      · rename_i l hl
        split at hk
        · rename_i l1 h1
          split at hk
          · rename_i l2 h2
            split at hk
            · rename_i v hv2
              rw[yba]at hk
              refine⟨_,_,hk,λP0 E look w y hh hq hv => ?_⟩
              obtain⟨b,n,hE,he⟩:=hv
              injection he with he _
              obtain⟨b',n',cs,t',fr,e1,e2,e3,e4,c1,c2,e5,e6⟩:=ent_cells hh (hq.trans hl)
              rw[hE]at e1;injection e1 with e1;injection e1 with e1 e1'; subst e1 e1'
              obtain⟨g1,g2,g3,g4,_⟩:=part_at e2 e5 e6 h1 h2
              refine⟨_,?_,V_ofA hv2 g1 g2⟩
              simp only[he,asAddr,Sem.run_bind,Sem.run_pure,Result.andThen_ok,Va.run_loadVar htT g2 g4]
            · exact nomatch hk
          · exact nomatch hk
        · exact nomatch hk
      · exact nomatch hk
    · exact nomatch hk
  · exact nomatch hk
theorem resA_ok (hT:TabOk P tab){sl:List AV}:∀ (rs:List ResultVar) (h:Hs) (k:List AV→Hs→Option R),resA tab rs sl h k=some r →
    ∃ l rl,k l ⟨h.H,h.nx,rl++h.rl,h.wl⟩=some r∧l.length=rs.length∧∀ P0 E look w (tmps:Array Value),HREL P0 E look w→(∀ q∈rl,look q=h.look q)→(∀ t,V E (getAt .bad sl t) (tmps.getD t undef)) →
      ∃ vs,C E (listA l) vs∧∀ f:ResultVar→Sem Value,(∀ t,f (.tmp t)=pure (tmps.getD t undef))→(∀ a t,f (.cell a t)=(do loadVar t (← asAddr (tmps.getD a undef))))→(rs.mapM f).run P w = .ok vs w
  | [],h,k,hk=>⟨[],[],hk,rfl,λP0 E look w tmps _ _ _=>⟨[],rfl,λf _ _=>rfl⟩⟩
  | .tmp t::rs,h,k,hk=>by
    unfold resA at hk
    obtain⟨l,rl,hk,hl,H⟩:=resA_ok hT rs h _ hk
    refine⟨_,rl,hk,by rw[List.length_cons,List.length_cons,hl],λP0 E look w tmps hh hq hv => ?_⟩
    obtain⟨vs,g1,g2⟩:=H P0 E look w tmps hh hq hv
    refine⟨tmps.getD t undef::vs,⟨_,_,rfl,hv t,g1⟩,λf f1 f2 => ?_⟩
    rw[List.mapM_cons,f1]
    simp only[Sem.run_bind,Sem.run_pure,Result.andThen_ok,g2 f f1 f2]
  | .cell a t::rs,h,k,hk=>by
    unfold resA at hk
    obtain⟨v,q,hk,hload⟩:=load_ok hT hk
    obtain⟨l,rl,hk,hl,H⟩:=resA_ok hT rs _ _ hk
    refine⟨_,rl++[q],by rw[List.append_assoc];exact hk,by rw[List.length_cons,List.length_cons,hl],λP0 E look w tmps hh hq hv => ?_⟩
    obtain⟨vs,g1,g2⟩:=H P0 E look w tmps hh (λx hx=>hq x (List.mem_append_left _ hx)) hv
    obtain⟨x,k1,k2⟩:=hload P0 E look w _ hh (hq q (List.mem_append_right _ (List.mem_singleton.2 rfl))) (hv a)
    refine⟨x::vs,⟨_,_,rfl,k2,g1⟩,λf f1 f2 => ?_⟩
    rw[List.mapM_cons,f2,Sem.run_bind,k1]
    simp only[Sem.run_bind,Sem.run_pure,Result.andThen_ok,g2 f f1 f2]
theorem V_oneOrTup {E:Env}{l:List AV}{vs:List Value}(h:C E (listA l) vs):V E (oneOrTup l) (if h:vs.toArray.size=1 then vs.toArray[0] else .tuple vs.toArray):=by
  have hlen:=(C_get l vs h).1
  unfold oneOrTup
  split
  · rename_i v
    obtain⟨x,r,e,h1,h2⟩:=h
    have:r=[]:=h2
    subst e this
    rw[dif_pos (by simp)]
    exact h1
  · rename_i hn
    have hne:¬ vs.toArray.size=1:=by
      intro hs
      have hs':vs.length=1:=by simpa using hs
      rw[hlen]at hs'
      match l,hs' with
      | [a],_=>exact hn a rfl
    rw[dif_neg hne]
    exact⟨_,rfl,by simpa using h⟩
def FtOk (P : Program) (ft : FuncId → Option Func) : Prop := ∀ g fn, ft g = some fn → P.funcs[g]? = some fn ∧ (fn.name == "runtime.NumGoroutine") = false
theorem ccall_ok [Gl] (hm:P.follows .mixedOrders=true) (hT:TabOk P tab) (hX:XtOk P xt) {ft:FuncId→Option Func} (hF:FtOk P ft) (N:Nat):∀ d,CallsOk P (ccall (R:=R) P tab xt ft N d)
  | 0=>λg args h k r hk=>nomatch hk
  | d + 1 => λg args h k r hk=>by
    unfold ccall at hk
    split at hk
    · exact nomatch hk
    · rename_i fn hfn
      obtain⟨f1,f2⟩:=hF g fn hfn
      split at hk
      · exact nomatch hk
      · rename_i code hb
        obtain⟨e,sl',h1,hk,hlen,rl,wl,st,hrun⟩:=crun_ok hm (aOp_ok hT hX (ccall_ok hm hT hX hF N d)) N code _ _ _ hk
        have fin:resA tab fn.results.toList sl' h1 (λl h=>k (oneOrTup l) h)=some r→(e = .nrm∨e = .ret)→∃ v h',k v h'=some r∧FRun P g args h v h':=by
          intro hk he
          obtain⟨l,rl2,hk,hl,H⟩:=resA_ok hT _ _ _ hk
          have st2:Stp h1 ⟨h1.H,h1.nx,rl2++h1.rl,h1.wl⟩ rl2 []:=⟨rfl,rfl,λ_ _=>rfl⟩
          refine⟨_,_,hk,⟨fn,f1,f2,by rw[hb];rfl⟩,rl2++rl,wl,st.trans st2,λlook P0 E w vals hlook hh hc => ?_⟩
          obtain⟨a1,a2⟩:=C_get args vals hc
          refine calls_of_wp f1 hb ?_
          have hrel : REL P0 E ⟨args++List.replicate (fn.ntmps-args.length) (.val undef),look⟩ { tmps:=vals.toArray++Array.replicate (fn.ntmps-vals.toArray.size) undef,defers:=[] } w:=by
            refine⟨hh,⟨by simp[a1],λt => ?_⟩,rfl⟩
            have hsz:vals.toArray.size=args.length:=by simpa using a1
            rcases Nat.lt_or_ge t args.length with ht | ht
            · have e1:getAt .bad (args++List.replicate (fn.ntmps-args.length) (.val undef)) t=getAt .bad args t:=Va.getAt_append_lt _ _ _ _ ht
              rw[e1]
              have e2:(vals.toArray++Array.replicate (fn.ntmps-vals.toArray.size) undef).getD t undef=vals.getD t undef:=by
                rw[Array.getD_eq_getD_getElem?,Array.getElem?_append_left (by omega),List.getD_eq_getElem?_getD];simp
              rw[e2];exact a2 t
            · have e2:(vals.toArray++Array.replicate (fn.ntmps-vals.toArray.size) undef).getD t undef=undef:=by
                rw[Array.getD_eq_getD_getElem?,Array.getElem?_append_right (by omega),Array.getElem?_replicate];split<;>rfl
              rw[e2]
              have e3:∀ (l:List AV) (m t:Nat),l.length≤t→V E (getAt .bad (l++List.replicate m (.val undef)) t) undef:=by
                intro l
                induction l with
                | nil=>
                  intro m
                  induction m with
                  | zero=>intro t _;exact trivial
                  | succ m ih=>
                    intro t _
                    cases t with
                    | zero=>exact V_undef
                    | succ t=>exact ih t (Nat.zero_le _)
                | cons a l ih=>
                  intro m t ht
                  cases t with
                  | zero=>exact absurd ht (by simp)
                  | succ t=>exact ih m t (by simpa using ht)
              exact e3 _ _ _ ht
          refine hrun look P0 E w _ _ (λq hq=>hlook q (hq.imp (List.mem_append_right _) id)) hrel (λE' a' w' hr hx => ?_)
          have post:a'.defers=[]∧∃ v,(results fn a'.tmps).run P w' = .ok v w'∧∃ x,Ending.returned v = .returned x∧Post P0 E look w (oneOrTup l) (wnOf ⟨h1.H,h1.nx,rl2++h1.rl,h1.wl⟩ wl) x w':=by
            obtain⟨vs,g1,g2⟩:=H P0 E' _ w' a'.tmps hr.h (λq hq=>mix_agree st (hlook q (.inl (List.mem_append_left _ hq)))) hr.s.val
            exact⟨hr.d,_,Va.results_aux g2,_,rfl,E',hr.h,hx,V_oneOrTup g1⟩
          rcases he with rfl | rfl
          · exact post
          · exact post
        cases e with
        | nrm=>exact fin hk (.inl rfl)
        | ret=>exact fin hk (.inr rfl)
        | ex id=>exact nomatch hk
def isTrue:Value→Bool
  | .bool true=>true
  | _=>false
theorem isTrue_eq {y:Value}(h:isTrue y=true):y = .bool true:=by
  unfold isTrue at h
  split at h
  · rfl
  · exact nomatch h
theorem run_says [Gl](hm:P.follows .mixedOrders=true)(hT:TabOk P tab)(hX:XtOk P xt){ft:FuncId→Option Func}(hF:FtOk P ft){N d:Nat}{g:FuncId}
    (hk:ccall (R:=Unit) P tab xt ft N d g [] ⟨.e,0,[],[]⟩ (λv _=>match toVal v with | some y=>(match isTrue y with | true=>some () | false=>none) | none=>none)=some ()) (w:World) :
    Calls P g #[] w λen w'=>en = .returned (.bool true)∧Grow w w':=by
  obtain⟨v,h',hk,_,rl,wl,st,H⟩:=ccall_ok hm hT hX hF N d _ _ _ _ _ hk
  refine (H (λ_ => .un) (λb=>b<w.heap.size) (λ_=>none) w [] (λq _=>rfl) ⟨λ_=>rfl,λr r' b n n' h=>(nomatch h),λr b n h=>(nomatch h),λr b n h=>(nomatch h),λb hb=>hb⟩ rfl).mono ?_
  rintro en w' ⟨x,rfl,E',h1,h2,h3⟩
  refine⟨?_,h2.keepP.os,h2.keepP.tape,h2.keepP.output,h2.keepP.size,λb hb=>h2.keepP.block b hb hb⟩
  split at hk
  · rename_i y hy
    rw[toVal_ok hy h3]
    split at hk
    · rename_i ht;rw[isTrue_eq ht]
    · exact nomatch hk
  · exact nomatch hk
end
end Go.Co
