/-
  Va, part 23: a region's run.
-/
import Derived.Test.YtemhlkdingkjnaaGreatDoorVaCode
set_option linter.unusedVariables false
set_option linter.unusedSimpArgs false
namespace Go.Va
open Go
structure REL [Gl](P0 S0:Nat→Prop)(E:Env)(s:St)(a:Act)(w:World):Prop where
  h:HREL P0 S0 E s.look w
  s:SREL E w s.sl a.tmps
  d:a.defers=[]
structure Pub (bn:List Nat)(P0:Nat→Prop)(E:Env)(w:World)(E':Env)(w':World):Prop where
  s:∀ b,E.S b→E'.S b
  keep:Keep E.S w w'
  keepP:Keep P0 w w'
  obj:∀ r∈bn,E.U r→E'.U r∧(E'.L r=none∨(E'.L r=E.L r∧E'.β r=E.β r))
theorem Pub.refl (bn:List Nat)(P0:Nat→Prop)(E:Env)(w:World):Pub bn P0 E w E w:=⟨λ_ h=>h,.refl _ _,.refl _ _,λ_ _ h=>⟨h,.inr ⟨rfl,rfl⟩⟩⟩
theorem Ext.pub {bn:List Nat}{P0:Nat→Prop}{E E':Env}{w w':World}(h:Ext P0 E w E' w'):Pub bn P0 E w E' w':=⟨h.s,h.keep,h.keepP,λr _=>h.obj r⟩
theorem Pub.trans {bn:List Nat}{P0:Nat→Prop}{E E' E'':Env}{w w' w'':World}(h:Pub bn P0 E w E' w')(k:Pub bn P0 E' w' E'' w''):Pub bn P0 E w E'' w'':=by
  refine⟨λb hb=>k.s b (h.s b hb),h.keep.trans (k.keep.mono h.s),h.keepP.trans k.keepP,λr hb hr => ?_⟩
  obtain⟨h1,h2⟩:=h.obj r hb hr
  obtain⟨k1,k2⟩:=k.obj r hb h1
  refine⟨k1,?_⟩
  rcases k2 with k2 | ⟨k2,k3⟩
  · exact .inl k2
  · rcases h2 with h2 | ⟨h2,h3⟩
    · exact .inl (k2.trans h2)
    · exact .inr ⟨k2.trans h2,k3.trans h3⟩
structure ActR where
  on:Bool
  v:AV
  RN:List Nat
  WN:List (Nat×Ent)
def Want (all:List Oper)(s:St)(o:Oper)(b:Bool):Prop:=
  match o.guard with
  | none=>b=true
  | some (j,want)=>∃ t,ycU all j=some t∧((∃ bb,getAt .bad s.sl t = .data .bool bb∧b=(bb==want))∨(getAt .bad s.sl t = .tup .done∧b=false))
theorem isUndef_eq {v:AV}(h:isUndef v=true):v = .tup .done:=by
  unfold isUndef at h
  split at h
  · rfl
  · exact absurd h (by simp)
def Chain [Gl](P:Program)(c:Cfg)(all:List Oper):List Oper→St→List ActR→St→Prop
  | [],s,[],s'=>s'=s
  | o :: r,s,ac::acs,s'=>Want all s o ac.on∧(ac.on=true→Ok P c o (opAV s.sl) s.look ac.v ac.RN ac.WN)∧(ac.on=false→ac.v = .tup .done∧ac.RN=[]∧ac.WN=[]) ∧
      Chain P c all r (s.put o.dst ac.v ac.WN) acs s'
  | _,_,_,_=>False
def ydk (all:List Oper):List Oper→List ActR→List Touch
  | o::r,ac::acs=>yb5 all o ac.RN ac.WN::ydk all r acs
  | _,_=>[]
theorem setAt_same {α:Type}(d:α):∀ (l:List α) (n:Nat),setAt l n (getAt d l n)=l
  | [],_=>rfl
  | _::_,0=>rfl
  | x::r,n+1=>by simp only[setAt,getAt];rw[setAt_same d r n]
section
variable {P:Program} {c:Cfg} {R:Type} {r:R}
theorem branch_some [Gl]{s:St}{t:Nat}{kt kf:St→Option R}(h:branch s t kt kf=some r):∃ b,getAt .bad s.sl t = .data .bool b∧((b=true∧kt s=some r)∨(b=false∧kf s=some r)):=by
  unfold branch at h
  simp only[ycN]at h
  split at h
  · rename_i b hb
    refine⟨b,hb,?_⟩
    split at h
    · rename_i ht
      left;refine⟨ht,?_⟩
      have:setAt s.sl t (.data .bool true)=s.sl:=by rw[← ht,← hb];exact setAt_same _ _ _
      rw[this]at h;exact h
    · rename_i ht
      have ht:b=false:=by simpa using ht
      right;refine⟨ht,?_⟩
      have:setAt s.sl t (.data .bool false)=s.sl:=by rw[← ht,← hb];exact setAt_same _ _ _
      rw[this]at h;exact h
  · exact absurd h (by simp)
theorem aOps_chain [Gl] (hT:TabOk P c.tab) (hΦ:∀ e∈c.Φ,EntryOk P e) {all:List Oper} {k:St→List Touch→Option R}:∀ (ops:List Oper) (s:St) (lg:List Touch),aOps c all ops s lg k=some r →
    ∃ acs s',Chain P c all ops s acs s'∧k s' (lg++ydk all ops acs)=some r
  | [],s,lg,h=>⟨[],s,rfl,by simp only[aOps,aOpG_eq]at h;simpa[ydk]using h⟩
  | o :: ops,s,lg,h=>by
    have go:∀ b,Want all s o b→b=true→aOp c o (opAV s.sl) s.look (λv RN WN=>aOps c all ops (s.put o.dst v WN) (lg++[yb5 all o RN WN]) k)=some r →
        ∃ acs s',Chain P c all (o::ops) s acs s'∧k s' (lg++ydk all (o::ops) acs)=some r:=by
      intro b hb hbt h
      subst hbt
      obtain⟨v,RN,WN,h1,h2⟩:=aOp_ok hT hΦ h
      obtain⟨acs,s',h3,h4⟩:=aOps_chain hT hΦ ops _ _ h1
      exact⟨⟨true,v,RN,WN⟩::acs,s',⟨hb,λ_=>h2,λhh=>(by simp at hh),h3⟩,by simpa[ydk]using h4⟩
    have skip:∀ b,Want all s o b→b=false→aOps c all ops (s.put o.dst (.tup .done) []) (lg++[yb5 all o [] []]) k=some r →
        ∃ acs s',Chain P c all (o::ops) s acs s'∧k s' (lg++ydk all (o::ops) acs)=some r:=by
      intro b hb hbt h
      subst hbt
      obtain⟨acs,s',h3,h4⟩:=aOps_chain hT hΦ ops _ _ h
      exact⟨⟨false,.tup .done,[],[]⟩::acs,s',⟨hb,λhh=>(by simp at hh),λ_=>⟨rfl,rfl,rfl⟩,h3⟩,by simpa[ydk]using h4⟩
    simp only[aOps,aOpG_eq]at h
    split at h
    · rename_i hg
      exact go true (by unfold Want;rw[hg]) rfl h
    · rename_i j want hg
      split at h
      · exact absurd h (by simp)
      · rename_i t hgs
        split at h
        · rename_i hu
          exact skip false (by unfold Want;rw[hg];exact⟨t,hgs,.inr ⟨isUndef_eq hu,rfl⟩⟩) rfl h
        rw[force_eq]at h
        cases want with
        | true=>
          obtain⟨b,hb,hc⟩:=branch_some h
          have hw:Want all s o b:=by unfold Want;rw[hg];exact⟨t,hgs,.inl ⟨b,hb,by simp⟩⟩
          rcases hc with ⟨hc1,hc2⟩ | ⟨hc1,hc2⟩
          · exact go b hw hc1 hc2
          · exact skip b hw hc1 hc2
        | false=>
          obtain⟨b,hb,hc⟩:=branch_some h
          have hw:Want all s o (!b):=by unfold Want;rw[hg];exact⟨t,hgs,.inl ⟨b,hb,by simp⟩⟩
          rcases hc with ⟨hc1,hc2⟩ | ⟨hc1,hc2⟩
          · exact skip (!b) hw (by simp[hc1]) hc2
          · exact go (!b) hw (by simp[hc1]) hc2
theorem yd1:∀ (l:List Oper) (j:Nat),ycU l j=(l[j]?).bind (·.dst)
  | [],_=>rfl
  | _::_,0=>rfl
  | _::r,j+1=>by simp only[ycU];rw[yd1 r j];simp
theorem wanted_iff [Gl] {ops:Array Oper} {s:St} {o:Oper} {b:Bool} {E:Env} {w:World} {a:Act} (h:Want ops.toList s o b) (hs:SREL E w s.sl a.tmps):Region.wanted o (yielded ops a.tmps)=b:=by
  unfold Want at h
  unfold Region.wanted
  split at h
  · rename_i hg;rw[hg];exact h.symm
  · rename_i j want hg
    rw[hg]
    obtain⟨t,h1,h⟩:=h
    have hv:=hs.val t
    rw[Array.getD_eq_getD_getElem?]at hv
    have hy0:yielded ops a.tmps j=match a.tmps[t]? with | some (.bool b)=>some b | _=>none:=by
      unfold yielded
      rw[yd1]at h1
      rw[← Array.getElem?_toList,h1]
      rfl
    rcases h with ⟨bb,h2,h3⟩ | ⟨h2,h3⟩
    · rw[h2]at hv
      have hv:=ycY.1 hv
      have ht:a.tmps[t]?=some (.bool bb):=by
        cases hh:a.tmps[t]? with
        | none=>rw[hh]at hv;simp[undef]at hv
        | some x=>rw[hh]at hv;simp at hv;rw[hv]
      rw[ht]at hy0
      simp only[hy0,h3]
      cases bb<;>cases want<;>rfl
    · rw[h2,V_one rfl]at hv
      obtain⟨vs,hv,_⟩:=hv
      have hy:yielded ops a.tmps j=none:=by
        rw[hy0]
        cases hh:a.tmps[t]? with
        | none=>rfl
        | some x=>rw[hh]at hv;simp at hv;rw[hv]
      simp only[hy,h3]
      rfl
theorem look_put (s:St)(d:Option Nat)(v:AV)(WN:List (Nat×Ent)):(s.put d v WN).look=updL WN s.look:=by
  funext r
  have:∀ (WN:List (Nat×Ent)) (hp:List (Nat×Ent)),updL (WN++hp) (λ_=>Ent.un) r=updL WN (updL hp λ_ => .un) r:=by
    intro WN hp
    induction WN with
    | nil=>rfl
    | cons x WN ih=>obtain⟨q,e⟩:=x;simp only[List.cons_append,updL];rw[ih]
  exact this WN s.hp
theorem opAV_V [Gl]{E:Env}{w:World}{sl:List AV}{a:Act}(hs:SREL E w sl a.tmps):∀ x,V E w (opAV sl x) (a.eval x)
  | .tmp t=>hs.val t
  | .const v=>ofVal_ok v
  | .func f=>by simp only[opAV,Act.eval];rw[V_one rfl];exact⟨#[],rfl,rfl⟩
  | .global g => .bad
theorem put_act [Gl]{E:Env}{w:World}{s:St}{a:Act}{d:Option Nat}{v:AV}{WN:List (Nat×Ent)}{x:Value}(hs:SREL E w s.sl a.tmps)(hv:V E w v x):SREL E w (s.put d v WN).sl (a.put d x).tmps:=by
  cases d with
  | none=>exact hs
  | some d=>exact hs.put d v x hv
theorem op_wp [Gl]{P0 S0:Nat→Prop}{E:Env}{s:St}{a:Act}{w:World}{o:Oper}{ac:ActR}{K:Act→World→Prop}{Q:Exit→Act→World→Prop}(h:REL P0 S0 E s a w)(hok:Ok P c o (opAV s.sl) s.look ac.v ac.RN ac.WN)
    (hK:∀ E' a' w',REL P0 S0 E' (s.put o.dst ac.v ac.WN) a' w'→Ext P0 E w E' w'→K a' w'):o.wp P a w K Q:=by
  have hpost:∀ x w',OpPost P0 S0 E s.look w ac.v ac.WN x w'→K (a.put o.dst x) w':=by
    intro x w' ⟨E',h1,h2,h3⟩
    refine hK E' _ w' ⟨?_,put_act (h.s.ext h2) h3,?_⟩ h2
    · rw[look_put];exact h1
    · cases o.dst with
      | none=>exact h.d
      | some d=>exact h.d
  unfold Oper.wp
  rcases hok.run P0 S0 E w a.eval h.h (opAV_V h.s) with ⟨x,w',h1,h2⟩ | ⟨w',h1,h2⟩ | ⟨f,args,w1,h1,h2⟩
  · rw[h1];exact hpost x w' h2
  · rw[h1];exact hpost undef w' h2
  · rw[h1]
    refine Calls.mono h2 ?_
    rintro e w' ⟨x,rfl,h3⟩
    exact hpost x w' h3
theorem V.undef [Gl]{E:Env}{w:World}:V E w (.tup .done) undef:=by rw[V_one rfl];exact⟨#[],rfl,rfl⟩
theorem Ext.put_bad [Gl]{P0 S0:Nat→Prop}{E:Env}{s:St}{a:Act}{w:World}(h:REL P0 S0 E s a w)(d:Option Nat):REL P0 S0 E (s.put d (.tup .done) []) (a.put d undef) w:=
  ⟨h.h,put_act h.s .undef,by cases d with | none=>exact h.d | some d=>exact h.d⟩
theorem chain_wp [Gl]{P0 S0:Nat→Prop}{ops:Array Oper}{Q:Exit→Act→World→Prop}:∀ (l:List Oper) (i:Nat) (s:St) (acs:List ActR) (s':St) (E:Env) (a:Act) (w:World),Chain P c ops.toList l s acs s' →
    (∀ j,l[j]?=ops[i+j]?)→REL P0 S0 E s a w→(∀ E' a' w',REL P0 S0 E' s' a' w'→Ext P0 E w E' w'→Q .normal a' w')→wpOps P ops Q (List.range' i l.length) a w
  | [],i,s,[],s',E,a,w,hc,hl,h,hQ=>by
    rw[show s'=s from hc]at hQ
    exact hQ E a w h (.refl _ _ _)
  | [],i,s,_::_,s',E,a,w,hc,hl,h,hQ=>hc.elim
  | _::_,i,s,[],s',E,a,w,hc,hl,h,hQ=>hc.elim
  | o :: l,i,s,ac::acs,s',E,a,w,⟨h1,h2,h3,h4⟩,hl,h,hQ=>by
    rw[List.length_cons,List.range'_succ,wpOps_cons]
    have ho:ops[i]?=some o:=by have:=hl 0;simpa using this.symm
    have hl':∀ j,l[j]?=ops[i+1+j]?:=λj=>by have:=hl (j+1);rw[List.getElem?_cons_succ]at this;rw[this];congr 1;omega
    unfold wpOp
    rw[ho]
    simp only[]
    rw[wanted_iff h1 h.s]
    cases hb:ac.on with
    | true=>
      rw[if_pos rfl]
      refine .inl (op_wp h (h2 hb) (λE' a' w' hr hx => ?_))
      exact chain_wp l (i+1) _ acs s' E' a' w' h4 hl' hr (λE'' a'' w'' hr' hx'=>hQ E'' a'' w'' hr' (hx.trans hx'))
    | false=>
      rw[if_neg (by simp)]
      obtain⟨e1,_,e3⟩:=h3 hb
      rw[e1,e3]at h4
      exact chain_wp l (i+1) _ acs s' E _ w h4 hl' (Ext.put_bad h o.dst) hQ
end
end Go.Va
