/-
  Co, part 3: code, run with known values.
-/
import Derived.Test.YtemhlkdingkjnaaGreatDoorCoSat
import Derived.Test.YtemhlkdingkjnaaGreatDoorVaRun
import Derived.LoopN
set_option linter.unusedVariables false
set_option linter.unusedSimpArgs false
namespace Go.Co
open Go
open Go.Va (getAt setAt ybI ybC getAt_ge ycU aheads clearAll ydS Ex cvt Gl)
inductive HT where
  | e
  | n (v:Ent) (l r:HT)
def HT.get:HT→Nat→Ent
  | .e,_ => .un
  | .n v l r,k=>match k with
    | 0=>v
    | k+1=>match k%2 with
      | 0=>l.get (k/2)
      | _=>r.get (k/2)
def HT.set:Nat→HT→Nat→Ent→HT
  | 0,t,_,_=>t
  | f + 1,.e,k,v=>match k with
    | 0 => .n v .e .e
    | k+1=>match k%2 with
      | 0 => .n .un (HT.set f .e (k/2) v) .e
      | _ => .n .un .e (HT.set f .e (k/2) v)
  | f + 1,.n u l r,k,v=>match k with
    | 0 => .n v l r
    | k+1=>match k%2 with
      | 0 => .n u (HT.set f l (k/2) v) r
      | _ => .n u l (HT.set f r (k/2) v)
def HT.setK {α:Type}:Nat→HT→Nat→Ent→(HT→α)→α
  | 0,t,_,_,c=>c t
  | f + 1,.e,k,v,c=>match k with
    | 0=>c (.n v .e .e)
    | k+1=>match k%2 with
      | 0=>HT.setK f .e (k/2) v λt=>c (.n .un t .e)
      | _=>HT.setK f .e (k/2) v λt=>c (.n .un .e t)
  | f + 1,.n u l r,k,v,c=>match k with
    | 0=>c (.n v l r)
    | k+1=>match k%2 with
      | 0=>HT.setK f l (k/2) v λt=>c (.n u t r)
      | _=>HT.setK f r (k/2) v λt=>c (.n u l t)
theorem HT.setK_eq {α:Type}:∀ (f:Nat) (t:HT) (k:Nat) (v:Ent) (c:HT→α),HT.setK f t k v c=c (HT.set f t k v)
  | 0,_,_,_,_=>rfl
  | f+1,.e,0,v,c=>rfl
  | f+1,.n u l r,0,v,c=>rfl
  | f+1,.e,k+1,v,c=>by
    simp only[HT.setK,HT.set]
    split<;>rw[HT.setK_eq f]
  | f+1,.n u l r,k+1,v,c=>by
    simp only[HT.setK,HT.set]
    split<;>rw[HT.setK_eq f]
theorem half_eq {j k:Nat}(h1:j%2=k%2)(h2:j/2=k/2):j=k:=by omega
theorem HT.get_set:∀ (f:Nat) (t:HT) (k:Nat) (v:Ent) (j:Nat),k<f→(HT.set f t k v).get j=if j=k then v else t.get j
  | 0,_,k,_,_,h=>absurd h (by omega)
  | f+1,.e,0,v,j,_=>by
    cases j with
    | zero=>simp[HT.set,HT.get]
    | succ j=>simp only[HT.set,HT.get];split<;>simp
  | f+1,.n u l r,0,v,j,_=>by
    cases j with
    | zero=>simp[HT.set,HT.get]
    | succ j=>simp[HT.set,HT.get]
  | f + 1,.e,k+1,v,j,h=>by
    have ih:=λj'=>HT.get_set f .e (k/2) v j' (by omega)
    simp only[HT.set]
    split
    · rename_i hk
      cases j with
      | zero=>simp[HT.get]
      | succ j=>
        simp only[HT.get]
        split
        · rename_i hj
          rw[ih]
          by_cases hjk:j/2=k/2
          · rw[if_pos hjk,if_pos (by have:=half_eq (hj.trans hk.symm) hjk;omega)]
          · rw[if_neg hjk,if_neg (by rintro e;injection e with e;exact hjk (by rw[e]))];rfl
        · rename_i hj
          rw[if_neg (by rintro e;injection e with e;subst e;exact hj hk)]
    · rename_i hk
      cases j with
      | zero=>simp[HT.get]
      | succ j=>
        simp only[HT.get]
        split
        · rename_i hj
          rw[if_neg (by rintro e;injection e with e;subst e;exact hk hj)]
        · rename_i hj
          rw[ih]
          by_cases hjk:j/2=k/2
          · have hk':k%2≠0:=hk
            have hj':j%2≠0:=hj
            rw[if_pos hjk,if_pos (by omega)]
          · rw[if_neg hjk,if_neg (by rintro e;injection e with e;exact hjk (by rw[e]))];rfl
  | f + 1,.n u l r,k+1,v,j,h=>by
    have ih1:=λj'=>HT.get_set f l (k/2) v j' (by omega)
    have ih2:=λj'=>HT.get_set f r (k/2) v j' (by omega)
    simp only[HT.set]
    split
    · rename_i hk
      cases j with
      | zero=>simp[HT.get]
      | succ j=>
        simp only[HT.get]
        split
        · rename_i hj
          rw[ih1]
          by_cases hjk:j/2=k/2
          · rw[if_pos hjk,if_pos (by have:=half_eq (hj.trans hk.symm) hjk;omega)]
          · rw[if_neg hjk,if_neg (by rintro e;injection e with e;exact hjk (by rw[e]))]
        · rename_i hj
          rw[if_neg (by rintro e;injection e with e;subst e;exact hj hk)]
    · rename_i hk
      cases j with
      | zero=>simp[HT.get]
      | succ j=>
        simp only[HT.get]
        split
        · rename_i hj
          rw[if_neg (by rintro e;injection e with e;subst e;exact hk hj)]
        · rename_i hj
          rw[ih2]
          by_cases hjk:j/2=k/2
          · have hk':k%2≠0:=hk
            have hj':j%2≠0:=hj
            rw[if_pos hjk,if_pos (by omega)]
          · rw[if_neg hjk,if_neg (by rintro e;injection e with e;exact hjk (by rw[e]))]
structure Hs where
  H:HT
  nx:Nat
  rl:List Nat
  wl:List Nat
def Hs.look (h:Hs)(q:Nat):Ent:=h.H.get q
structure Stp (h h':Hs)(rl wl:List Nat):Prop where
  r:h'.rl=rl++h.rl
  w:h'.wl=wl++h.wl
  fr:∀ q,q ∉ wl→h'.look q=h.look q
theorem Stp.refl (h:Hs):Stp h h [] []:=⟨rfl,rfl,λ_ _=>rfl⟩
theorem Stp.trans {a b c:Hs}{r1 w1 r2 w2:List Nat}(h:Stp a b r1 w1)(k:Stp b c r2 w2):Stp a c (r2++r1) (w2++w1):=
  ⟨by rw[k.r,h.r,List.append_assoc],by rw[k.w,h.w,List.append_assoc],λq hq=>(k.fr q (λe=>hq (List.mem_append_left _ e))).trans (h.fr q (λe=>hq (List.mem_append_right _ e)))⟩
abbrev wnOf (h:Hs)(wl:List Nat):List (Nat×Ent):=wl.map λq=>(q,h.look q)
theorem updL_wn (g:Nat→Ent)(f:Nat→Ent)(r:Nat):∀ (wl:List Nat),updL (wl.map λq=>(q,g q)) f r=if r∈wl then g r else f r
  | []=>rfl
  | q :: wl=>by
    simp only[List.map_cons,updL,updL_wn g f r wl,List.mem_cons]
    by_cases h:r=q
    · subst h;simp
    · have:(r==q)=false:=by simpa using h
      simp[this,h]
theorem wn_fst (h:Hs)(wl:List Nat):(wnOf h wl).map Prod.fst=wl:=by
  unfold wnOf;rw[List.map_map];exact List.map_id _
theorem mix_agree {a b:Hs}{r1 w1:List Nat}(h:Stp a b r1 w1){look:Nat→Ent}{q:Nat}(hq:look q=a.look q):updL (wnOf b w1) look q=b.look q:=by
  rw[updL_wn]
  split
  · rfl
  · rename_i hn;rw[hq,h.fr q hn]
theorem mix_mix {b c:Hs}{w1 r2 w2:List Nat}(k:Stp b c r2 w2)(look:Nat→Ent):updL (wnOf c w2) (updL (wnOf b w1) look)=updL (wnOf c (w2++w1)) look:=by
  funext q
  rw[updL_wn,updL_wn,updL_wn]
  by_cases h2:q∈w2
  · rw[if_pos h2,if_pos (List.mem_append_left _ h2)]
  · rw[if_neg h2]
    by_cases h1:q∈w1
    · rw[if_pos h1,if_pos (List.mem_append_right _ h1),k.fr q h2]
    · rw[if_neg h1,if_neg (λe=>(List.mem_append.1 e).elim h2 h1)]
def SOk (P:Program)(o:Oper)(ev:Operand→AV)(h:Hs)(v:AV)(h':Hs):Prop:=
  ∃ rl wl,Stp h h' rl wl∧Ok P o ev h.look v rl (wnOf h' wl)
abbrev OpF (R:Type):=Oper→(Operand→AV)→Hs→(AV→Hs→Option R)→Option R
def OpOk {R:Type}(P:Program)(aop:OpF R):Prop:=∀ o ev h k r,aop o ev h k=some r→∃ v h',k v h'=some r∧SOk P o ev h v h'
def CRun (P:Program) (code:Code) (sl:List AV) (h:Hs) (e:Ex) (sl':List AV) (h':Hs):Prop:=
  sl'.length=sl.length∧∃ rl wl,Stp h h' rl wl ∧
    ∀ look P0 E w a (Q:Exit→Act→World→Prop),(∀ q,q∈rl∨q∈wl→look q=h.look q)→REL P0 E ⟨sl,look⟩ a w →
      (∀ E' a' w',REL P0 E' ⟨sl',updL (wnOf h' wl) look⟩ a' w'→Ext P0 E w E' w'→Q (cvt e) a' w')→code.wp P Q a w
noncomputable def setK {α:Type}(l:List AV):Nat→AV→(List AV→α)→α:=
  List.rec (motive:=λ_=>Nat→AV→(List AV→α)→α) (λ_ _ k=>k [])
    (λx r ih n v k=>Nat.rec (motive:=λ_=>α) (k (v::r)) (λn _=>ih n v λr=>k (x::r)) n) l
theorem setK_eq {α:Type}:∀ (l:List AV) (n:Nat) (v:AV) (k:List AV→α),setK l n v k=k (setAt l n v)
  | [],_,_,_=>rfl
  | _::_,0,_,_=>rfl
  | x::r,n+1,v,k=>setK_eq r n v λr=>k (x::r)
noncomputable def getF (l:List AV):Nat→AV:=
  List.rec (motive:=λ_=>Nat→AV) (λ_ => .bad) (λx _ ih n=>Nat.rec (motive:=λ_=>AV) x (λn _=>ih n) n) l
theorem getF_eq:∀ (l:List AV) (n:Nat),getF l n=getAt .bad l n
  | [],_=>rfl
  | _::_,0=>rfl
  | _::r,n+1=>getF_eq r n
theorem getF_fun (l:List AV):getF l=getAt .bad l:=funext (getF_eq l)
noncomputable def putK {α:Type}(sl:List AV)(d:Option Nat)(v:AV)(k:List AV→α):α:=
  match d with
  | some d=>setK sl d v k
  | none=>k sl
def putS (sl:List AV)(d:Option Nat)(v:AV):List AV:=match d with | some d=>setAt sl d v | none=>sl
theorem putK_eq {α:Type}(sl:List AV)(d:Option Nat)(v:AV)(k:List AV→α):putK sl d v k=k (putS sl d v):=by
  cases d with
  | none=>rfl
  | some d=>exact setK_eq sl d v k
theorem putS_len (sl:List AV)(d:Option Nat)(v:AV):(putS sl d v).length=sl.length:=by
  cases d with
  | none=>rfl
  | some d=>exact ybC _ _ _
section
variable {R:Type}
noncomputable def wants (all:List Oper)(sl:List AV)(o:Oper)(go skip:Option R):Option R:=
  match o.guard with
  | none=>go
  | some (j,want)=>match ycU all j with
    | none=>none
    | some t=>match getF sl t with
      | .val (.bool true)=>(match want with | true=>go | false=>skip)
      | .val (.bool false)=>(match want with | true=>skip | false=>go)
      | .val (.tuple ⟨[]⟩)=>skip
      | _=>none
theorem wants_ok {all:List Oper} {sl:List AV} {look:Nat→Ent} {o:Oper} {go skip:Option R} {r:R} (h:wants all sl o go skip=some r) :
    (Want all ⟨sl,look⟩ o true∧go=some r)∨(Want all ⟨sl,look⟩ o false∧skip=some r):=by
  unfold wants at h
  unfold Want
  split at h
  · rename_i hg;rw[hg];exact .inl ⟨rfl,h⟩
  · rename_i j want hg
    rw[hg]
    split at h
    · exact nomatch h
    · rename_i t ht
      rw[getF_eq]at h
      split at h
      · rename_i hb
        cases want with
        | true=>exact .inl ⟨⟨t,ht,.inl ⟨true,hb,rfl⟩⟩,h⟩
        | false=>exact .inr ⟨⟨t,ht,.inl ⟨true,hb,rfl⟩⟩,h⟩
      · rename_i hb
        cases want with
        | true=>exact .inr ⟨⟨t,ht,.inl ⟨false,hb,rfl⟩⟩,h⟩
        | false=>exact .inl ⟨⟨t,ht,.inl ⟨false,hb,rfl⟩⟩,h⟩
      · rename_i hb
        exact .inr ⟨⟨t,ht,.inr ⟨hb,rfl⟩⟩,h⟩
      · exact nomatch h
noncomputable def aOps (aop:OpF R)(all:List Oper):List Oper→List AV→Hs→(List AV→Hs→Option R)→Option R
  | [],sl,h,k=>k sl h
  | o :: r,sl,h,k=>wants all sl o
      (aop o (opF (getF sl)) h λv h=>putK sl o.dst v λsl=>aOps aop all r sl h k)
      (putK sl o.dst (.val undef) λsl=>aOps aop all r sl h k)
def touchAt (all:List Oper)(o:Oper)(rl wl:List Nat):Va.Touch:=
  ⟨Va.tmpsOf o.op.operands.toList++(match o.guard with | some (j,_)=>(ycU all j).toList | none=>[]),o.dst.toList,rl,wl⟩
theorem touchAt_eq (all:List Oper)(o:Oper)(h:Hs)(rl wl:List Nat):touchAt all o rl wl=yb5 all o rl (wnOf h wl):=by
  unfold touchAt yb5;rw[wn_fst];rfl
noncomputable def aOpsD (aop:OpF R)(all:List Oper):List Oper→List AV→Hs→List Va.Touch→(List AV→Hs→List Va.Touch→Option R)→Option R
  | [],sl,h,lg,k=>k sl h lg
  | o :: r,sl,h,lg,k=>wants all sl o
      (aop o (opF (getF sl)) ⟨h.H,h.nx,[],[]⟩ λv h'=>putK sl o.dst v λsl=>aOpsD aop all r sl ⟨h'.H,h'.nx,h'.rl++h.rl,h'.wl++h.wl⟩ (lg++[touchAt all o h'.rl h'.wl]) k)
      (putK sl o.dst (.val undef) λsl=>aOpsD aop all r sl h (lg++[touchAt all o [] []]) k)
abbrev KK (R:Type):=Ex→List AV→Hs→Option R
noncomputable def loopN (F:List AV→Hs→KK R→Option R):Nat→List AV→Hs→KK R→Option R
  | 0,_,_,_=>none
  | m+1,sl,h,k=>F sl h λe sl h=>match e with
    | .nrm=>loopN F m sl h k
    | .ex id=>k (.ex id) sl h
    | .ret=>k .ret sl h
noncomputable def crun (aop:OpF R)(N:Nat):Code→List AV→Hs→KK R→Option R
  | .skip,sl,h,k=>k .nrm sl h
  | .region _ ops d,sl,h,k=>match d with
    | false=>aOps aop ops.toList ops.toList sl h λsl h=>k .nrm sl h
    | true=>aOpsD aop ops.toList ops.toList sl h [] λsl h lg=>match ydS 0 ops.toList&&clearAll (aheads ops.toList []) 0 lg with
      | true=>k .nrm sl h
      | false=>none
  | .seq a b,sl,h,k=>crun aop N a sl h λe sl h=>match e with
    | .nrm=>crun aop N b sl h k
    | .ex id=>k (.ex id) sl h
    | .ret=>k .ret sl h
  | .cond c a b,sl,h,k=>match opF (getF sl) c with
    | .val (.bool true)=>crun aop N a sl h k
    | .val (.bool false)=>crun aop N b sl h k
    | _=>none
  | .block id b,sl,h,k=>crun aop N b sl h λe sl h=>match e with
    | .nrm=>k .nrm sl h
    | .ex j=>(match j==id with | true=>k .nrm sl h | false=>k (.ex j) sl h)
    | .ret=>k .ret sl h
  | .loop b,sl,h,k=>loopN (crun aop N b) N sl h k
  | .exit id,sl,h,k=>k (.ex id) sl h
  | .ret,sl,h,k=>k .ret sl h
  | _,_,_,_=>none
end
section
variable {P:Program} {R:Type} {r:R}
theorem CRun.refl_of {code:Code}{sl:List AV}{h:Hs}{e:Ex}(H:∀ a w (Q:Exit→Act→World→Prop),Q (cvt e) a w→code.wp P Q a w):CRun P code sl h e sl h:=
  ⟨rfl,[],[],.refl h,λlook P0 E w a Q _ hr hQ=>H a w Q (hQ E a w hr (.refl _ _ _))⟩
theorem aOps_ok {aop:OpF R}(hop:OpOk P aop){all:List Oper}{k:List AV→Hs→Option R}:∀ (ops:List Oper) (sl:List AV) (h:Hs),aOps aop all ops sl h k=some r →
    ∃ sl' h',k sl' h'=some r∧sl'.length=sl.length∧∃ rl wl,Stp h h' rl wl∧∀ look,(∀ q,q∈rl∨q∈wl→look q=h.look q)→∃ acs,Chain P all ops ⟨sl,look⟩ acs ⟨sl',updL (wnOf h' wl) look⟩
  | [],sl,h,hk=>⟨sl,h,hk,rfl,[],[],.refl h,λlook _=>⟨[],rfl⟩⟩
  | o :: ops,sl,h,hk=>by
    unfold aOps at hk
    rw[getF_fun]at hk
    rcases wants_ok (look:=h.look) hk with ⟨hw,hk⟩ | ⟨hw,hk⟩
    · obtain⟨v,h1,hk,r1,w1,s1,ok1⟩:=hop _ _ _ _ _ hk
      rw[putK_eq]at hk
      obtain⟨sl',h',hk,hl,r2,w2,s2,ok2⟩:=aOps_ok hop ops _ _ hk
      refine⟨sl',h',hk,hl.trans (putS_len _ _ _),r2++r1,w2++w1,s1.trans s2,λlook hlook => ?_⟩
      obtain⟨acs,hc⟩:=ok2 (updL (wnOf h1 w1) look) (λq hq=>mix_agree s1 (hlook q (hq.imp (List.mem_append_left _) (List.mem_append_left _))))
      rw[mix_mix s2]at hc
      refine⟨⟨true,v,r1,wnOf h1 w1⟩::acs,hw,λ_ => ?_,λhh=>(nomatch hh),hc⟩
      refine Ok.move ok1 (λ_ _=>rfl) (λq hq=>hlook q ?_)
      rw[wn_fst]at hq
      exact hq.imp (List.mem_append_right _) (List.mem_append_right _)
    · rw[putK_eq]at hk
      obtain⟨sl',h',hk,hl,r2,w2,s2,ok2⟩:=aOps_ok hop ops _ _ hk
      refine⟨sl',h',hk,hl.trans (putS_len _ _ _),r2,w2,s2,λlook hlook => ?_⟩
      obtain⟨acs,hc⟩:=ok2 look hlook
      exact⟨⟨false,.val undef,[],[]⟩::acs,hw,λhh=>(nomatch hh),λ_=>⟨rfl,rfl,rfl⟩,hc⟩
theorem aOpsD_ok {aop:OpF R} (hop:OpOk P aop) {all:List Oper} {k:List AV→Hs→List Va.Touch→Option R}:∀ (ops:List Oper) (sl:List AV) (h:Hs) (lg:List Va.Touch),aOpsD aop all ops sl h lg k=some r →
    ∃ sl' h' tl,k sl' h' (lg++tl)=some r∧sl'.length=sl.length∧∃ rl wl,Stp h h' rl wl∧∀ look,(∀ q,q∈rl∨q∈wl→look q=h.look q)→∃ acs,Chain P all ops ⟨sl,look⟩ acs ⟨sl',updL (wnOf h' wl) look⟩∧ydk all ops acs=tl
  | [],sl,h,lg,hk=>⟨sl,h,[],by rw[List.append_nil];exact hk,rfl,[],[],.refl h,λlook _=>⟨[],rfl,rfl⟩⟩
  | o :: ops,sl,h,lg,hk=>by
    unfold aOpsD at hk
    rw[getF_fun]at hk
    rcases wants_ok (look:=h.look) hk with ⟨hw,hk⟩ | ⟨hw,hk⟩
    · obtain⟨v,h1,hk,r1,w1,s1,ok1⟩:=hop _ _ _ _ _ hk
      rw[putK_eq]at hk
      have er:h1.rl=r1:=by rw[s1.r];exact List.append_nil _
      have ew:h1.wl=w1:=by rw[s1.w];exact List.append_nil _
      rw[er,ew]at hk
      have s1':Stp h ⟨h1.H,h1.nx,r1++h.rl,w1++h.wl⟩ r1 w1:=⟨rfl,rfl,s1.fr⟩
      obtain⟨sl',h',tl,hk,hl,r2,w2,s2,ok2⟩:=aOpsD_ok hop ops _ _ _ hk
      refine⟨sl',h',touchAt all o r1 w1::tl,by rw[List.append_assoc]at hk;exact hk,hl.trans (putS_len _ _ _),r2++r1,w2++w1,s1'.trans s2,λlook hlook => ?_⟩
      obtain⟨acs,hc,ht⟩:=ok2 (updL (wnOf h1 w1) look) (λq hq=>mix_agree s1' (hlook q (hq.imp (List.mem_append_left _) (List.mem_append_left _))))
      have hmix:=mix_mix (b:=⟨h1.H,h1.nx,r1++h.rl,w1++h.wl⟩) (w1:=w1) s2 look
      have e1:wnOf ⟨h1.H,h1.nx,r1++h.rl,w1++h.wl⟩ w1=wnOf h1 w1:=rfl
      rw[e1]at hmix
      rw[hmix]at hc
      refine⟨⟨true,v,r1,wnOf h1 w1⟩::acs,⟨hw,λ_ => ?_,λhh=>(nomatch hh),hc⟩,?_⟩
      · refine Ok.move ok1 (λ_ _=>rfl) (λq hq=>hlook q ?_)
        rw[wn_fst]at hq
        exact hq.imp (List.mem_append_right _) (List.mem_append_right _)
      · simp only[ydk,ht]
        rw[touchAt_eq all o h1]
    · rw[putK_eq]at hk
      obtain⟨sl',h',tl,hk,hl,r2,w2,s2,ok2⟩:=aOpsD_ok hop ops _ _ _ hk
      refine⟨sl',h',touchAt all o [] []::tl,by rw[List.append_assoc]at hk;exact hk,hl.trans (putS_len _ _ _),r2,w2,s2,λlook hlook => ?_⟩
      obtain⟨acs,hc,ht⟩:=ok2 look hlook
      exact⟨⟨false,.val undef,[],[]⟩::acs,⟨hw,λhh=>(nomatch hh),λ_=>⟨rfl,rfl,rfl⟩,hc⟩,by simp only[ydk,ht];rfl⟩
theorem CRun.seq {a b:Code}{sl sl1 sl2:List AV}{h h1 h2:Hs}{e:Ex}(k1:CRun P a sl h .nrm sl1 h1)(k2:CRun P b sl1 h1 e sl2 h2):CRun P (.seq a b) sl h e sl2 h2:=by
  obtain⟨l1,r1,w1,s1,g1⟩:=k1
  obtain⟨l2,r2,w2,s2,g2⟩:=k2
  refine⟨l2.trans l1,r2++r1,w2++w1,s1.trans s2,λlook P0 E w ac Q hlook hr hQ => ?_⟩
  refine wp_seq (g1 look P0 E w ac _ (λq hq=>hlook q (hq.imp (List.mem_append_right _) (List.mem_append_right _))) hr (λE' a' w' hr' hx => ?_))
  refine g2 _ P0 E' w' a' Q (λq hq=>mix_agree s1 (hlook q (hq.imp (List.mem_append_left _) (List.mem_append_left _)))) hr' (λE'' a'' w'' hr'' hx' => ?_)
  rw[mix_mix s2]at hr''
  exact hQ E'' a'' w'' hr'' (hx.trans hx')
theorem crun_ok [Gl] (hm:P.follows .mixedOrders=true) {aop:OpF R} (hop:OpOk P aop) (N:Nat):∀ (c:Code) (sl:List AV) (h:Hs) (k:KK R),crun aop N c sl h k=some r →
    ∃ e sl' h',k e sl' h'=some r∧CRun P c sl h e sl' h'
  | .skip,sl,h,k,hk=>⟨.nrm,sl,h,hk,.refl_of λa w Q hQ=>wp_skip hQ⟩
  | .exit id,sl,h,k,hk=>⟨.ex id,sl,h,hk,.refl_of λa w Q hQ=>wp_exit hQ⟩
  | .ret,sl,h,k,hk=>⟨.ret,sl,h,hk,.refl_of λa w Q hQ=>wp_ret hQ⟩
  | .region id ops d,sl,h,k,hk=>by
    unfold crun at hk
    cases d with
    | false=>
      simp only[]at hk
      obtain⟨sl',h',hk,hl,rl,wl,st,hc⟩:=aOps_ok hop _ _ _ hk
      refine⟨.nrm,sl',h',hk,hl,rl,wl,st,λlook P0 E w a Q hlook hr hQ => ?_⟩
      obtain⟨acs,hc⟩:=hc look hlook
      refine wp_region ?_
      rw[List.range_eq_range']
      exact chain_wp ops.toList 0 _ acs _ E a w hc (λj=>by rw[Nat.zero_add,Array.getElem?_toList]) hr (λE' a' w' hr' hx=>hQ E' a' w' hr' hx)
    | true=>
      simp only[]at hk
      obtain⟨sl',h',tl,hk,hl,rl,wl,st,hc⟩:=aOpsD_ok hop _ _ _ _ hk
      rw[List.nil_append]at hk
      split at hk
      · rename_i hcl
        rw[Bool.and_eq_true]at hcl
        refine⟨.nrm,sl',h',hk,hl,rl,wl,st,λlook P0 E w a Q hlook hr hQ => ?_⟩
        obtain⟨acs,hc,ht⟩:=hc look hlook
        refine wp_region_any hm ?_
        have hg:Ext P0 E w E { w with drawn:=w.drawn+1 }:=⟨λ_ _ h=>h,rfl,rfl,rfl,Nat.le_refl _,λ_ _ _=>rfl⟩
        have hrel:HREL P0 E look { w with drawn:=w.drawn+1 }:=⟨λq=>(hr.h.ent q).ext (λ_ _ h=>h) rfl (λ_ _ _ _=>rfl),hr.h.inj,hr.h.sep,hr.h.lt,hr.h.pIn⟩
        refine any_wp (E0:=E) (w0:=w) hc hcl.1 (by rw[ht];exact hcl.2) (λE' a' w' hr' hx=>hQ E' a' w' hr' hx) ops.size _ E a _ (by simp) ?_ ?_ ?_ hg
        · unfold Va.open_
          exact Nat.le_trans (List.length_filter_le _ _) (by simp)
        · intro i o ho hi
          have:(Array.replicate ops.size false).getD i false=false:=by
            rw[Array.getD_eq_getD_getElem?,Array.getElem?_replicate];split<;>rfl
          simp only[this]at hi;exact absurd hi (by simp)
        · have ez:∀ i,(Array.replicate ops.size false).getD i false=false:=λi=>by
            rw[Array.getD_eq_getD_getElem?,Array.getElem?_replicate];split<;>rfl
          have hnone:∀ {α:Type} (wr:Nat→Option α) (x0:α) (n:Nat),Va.lastW wr (λi=>(Array.replicate ops.size false).getD i false) x0 n=x0:=by
            intro α wr x0 n
            induction n with
            | zero=>rfl
            | succ n ih=>
              simp only[Va.lastW]
              rw[if_neg (by rw[ez];simp),ih]
          refine⟨?_,hr.s.len,?_,hr.d⟩
          · have:(λr=>Va.lastW (wHl acs r) (λi=>(Array.replicate ops.size false).getD i false) ((⟨sl,look⟩:St).look r) ops.size)=look:=funext λr=>hnone _ _ _
            rw[this];exact hrel
          · intro t
            rw[hnone]
            exact hr.s.val t
      · exact nomatch hk
  | .seq a b,sl,h,k,hk=>by
    unfold crun at hk
    obtain⟨e,sl1,h1,hk,g⟩:=crun_ok hm hop N a _ _ _ hk
    cases e with
    | nrm=>
      obtain⟨e,sl2,h2,hk,g2⟩:=crun_ok hm hop N b _ _ _ hk
      exact⟨e,sl2,h2,hk,g.seq g2⟩
    | ex id=>
      obtain⟨l,rl,wl,st,g⟩:=g
      exact⟨_,sl1,h1,hk,l,rl,wl,st,λlook P0 E w ac Q hlook hr hQ=>wp_seq (g look P0 E w ac _ hlook hr hQ)⟩
    | ret=>
      obtain⟨l,rl,wl,st,g⟩:=g
      exact⟨_,sl1,h1,hk,l,rl,wl,st,λlook P0 E w ac Q hlook hr hQ=>wp_seq (g look P0 E w ac _ hlook hr hQ)⟩
  | .cond c a b,sl,h,k,hk=>by
    unfold crun at hk
    rw[getF_fun]at hk
    split at hk
    · rename_i hc
      obtain⟨e,sl1,h1,hk,l,rl,wl,st,g⟩:=crun_ok hm hop N a _ _ _ hk
      refine⟨e,sl1,h1,hk,l,rl,wl,st,λlook P0 E w ac Q hlook hr hQ => ?_⟩
      have hv:=opF_V hr.s.val c
      rw[hc]at hv
      exact wp_cond (t:=true) (V_val.1 hv) (g look P0 E w ac Q hlook hr hQ)
    · rename_i hc
      obtain⟨e,sl1,h1,hk,l,rl,wl,st,g⟩:=crun_ok hm hop N b _ _ _ hk
      refine⟨e,sl1,h1,hk,l,rl,wl,st,λlook P0 E w ac Q hlook hr hQ => ?_⟩
      have hv:=opF_V hr.s.val c
      rw[hc]at hv
      exact wp_cond (t:=false) (V_val.1 hv) (g look P0 E w ac Q hlook hr hQ)
    · exact nomatch hk
  | .block id b,sl,h,k,hk=>by
    unfold crun at hk
    obtain⟨e,sl1,h1,hk,l,rl,wl,st,g⟩:=crun_ok hm hop N b _ _ _ hk
    cases e with
    | nrm=>exact⟨.nrm,sl1,h1,hk,l,rl,wl,st,λlook P0 E w ac Q hlook hr hQ=>wp_block (g look P0 E w ac _ hlook hr hQ)⟩
    | ret=>exact⟨.ret,sl1,h1,hk,l,rl,wl,st,λlook P0 E w ac Q hlook hr hQ=>wp_block (g look P0 E w ac _ hlook hr hQ)⟩
    | ex j=>
      simp only[]at hk
      split at hk
      · rename_i hj
        refine⟨.nrm,sl1,h1,hk,l,rl,wl,st,λlook P0 E w ac Q hlook hr hQ=>wp_block (g look P0 E w ac _ hlook hr (λE' a' w' hr' hx => ?_))⟩
        simp only[cvt,Exit.inBlock]
        rw[if_pos (by simpa using hj)]
        exact hQ E' a' w' hr' hx
      · rename_i hj
        refine⟨.ex j,sl1,h1,hk,l,rl,wl,st,λlook P0 E w ac Q hlook hr hQ=>wp_block (g look P0 E w ac _ hlook hr (λE' a' w' hr' hx => ?_))⟩
        simp only[cvt,Exit.inBlock]
        rw[if_neg (by simpa using hj)]
        exact hQ E' a' w' hr' hx
  | .loop b,sl,h,k,hk=>by
    unfold crun at hk
    have key:∀ (m:Nat) (sl:List AV) (h:Hs),loopN (crun aop N b) m sl h k=some r→∃ e sl' h',k e sl' h'=some r∧sl'.length=sl.length∧e ≠ .nrm∧∃ rl wl,Stp h h' rl wl ∧
        ∀ look P0 E w a (Q:Exit→Act→World→Prop),(∀ q,q∈rl∨q∈wl→look q=h.look q)→REL P0 E ⟨sl,look⟩ a w →
          (∀ E' a' w',REL P0 E' ⟨sl',updL (wnOf h' wl) look⟩ a' w'→Ext P0 E w E' w'→Q (cvt e) a' w')→Code.rounds P b Q m a w:=by
      intro m
      induction m with
      | zero=>intro sl h hk;exact nomatch hk
      | succ m ih=>
        intro sl h hk
        unfold loopN at hk
        obtain⟨e,sl1,h1,hk,l,r1,w1,s1,g⟩:=crun_ok hm hop N b _ _ _ hk
        cases e with
        | nrm=>
          obtain⟨e,sl2,h2,hk,l2,hne,r2,w2,s2,g2⟩:=ih _ _ hk
          refine⟨e,sl2,h2,hk,l2.trans l,hne,r2++r1,w2++w1,s1.trans s2,λlook P0 E w ac Q hlook hr hQ => ?_⟩
          refine g look P0 E w ac _ (λq hq=>hlook q (hq.imp (List.mem_append_right _) (List.mem_append_right _))) hr (λE' a' w' hr' hx => ?_)
          refine g2 _ P0 E' w' a' Q (λq hq=>mix_agree s1 (hlook q (hq.imp (List.mem_append_left _) (List.mem_append_left _)))) hr' (λE'' a'' w'' hr'' hx' => ?_)
          rw[mix_mix s2]at hr''
          exact hQ E'' a'' w'' hr'' (hx.trans hx')
        | ex id=>exact⟨_,sl1,h1,hk,l,λe=>(nomatch e),r1,w1,s1,λlook P0 E w ac Q hlook hr hQ=>g look P0 E w ac _ hlook hr hQ⟩
        | ret=>exact⟨_,sl1,h1,hk,l,λe=>(nomatch e),r1,w1,s1,λlook P0 E w ac Q hlook hr hQ=>g look P0 E w ac _ hlook hr hQ⟩
    obtain⟨e,sl',h',hk,l,hne,rl,wl,st,g⟩:=key N sl h hk
    exact⟨e,sl',h',hk,l,rl,wl,st,λlook P0 E w a Q hlook hr hQ=>wp_loop_rounds N (g look P0 E w a Q hlook hr hQ)⟩
  | .label _,_,_,_,hk=>nomatch hk
  | .goto _,_,_,_,hk=>nomatch hk
  | .scope _,_,_,_,hk=>nomatch hk
  | .rangeFunc _ _ _ _,_,_,_,hk=>nomatch hk
  | .refuse _,_,_,_,hk=>nomatch hk
end
end Go.Co
