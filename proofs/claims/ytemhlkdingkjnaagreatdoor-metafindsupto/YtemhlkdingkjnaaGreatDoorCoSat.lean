/-
  Co, part 2: a region's run, in the text's order and in any.
-/
import Derived.Test.YtemhlkdingkjnaaGreatDoorCoBase
import Derived.Test.YtemhlkdingkjnaaGreatDoorVaDraw
set_option linter.unusedVariables false
set_option linter.unusedSimpArgs false
namespace Go.Co
open Go
open Go.Va (getAt setAt ybI ybC meets ahead dedup aheads clear1 clearAll ydS ycU tmpsOf lastW ycT lastW_ins lastW_shift lastW_cut tt og agree open_ open_set open_zero ydV Closed ydR ahead_in ydI ybJ tmpsOf_mem yd1 Gl)
structure St where
  sl:List AV
  look:Nat→Ent
def St.put (s:St)(d:Option Nat)(v:AV)(WN:List (Nat×Ent)):St:=
  ⟨match d with | some d=>setAt s.sl d v | none=>s.sl,updL WN s.look⟩
theorem V_val {E:Env}{x y:Value}:V E (.val x) y↔y=x:=by simp[V,C]
theorem V_undef {E:Env}:V E (.val undef) undef:=rfl
def yb5 (all:List Oper)(o:Oper)(RN:List Nat)(WN:List (Nat×Ent)):Va.Touch:=
  ⟨tmpsOf o.op.operands.toList++(match o.guard with | some (j,_)=>(ycU all j).toList | none=>[]),o.dst.toList,RN,WN.map Prod.fst⟩
theorem put_act {E:Env}{s:St}{a:Act}{d:Option Nat}{v:AV}{WN:List (Nat×Ent)}{x:Value}(hs:SREL E s.sl a.tmps)(hv:V E v x):SREL E (s.put d v WN).sl (a.put d x).tmps:=by
  cases d with
  | none=>exact hs
  | some d=>exact hs.put d v x hv
theorem look_put (s:St)(d:Option Nat)(v:AV)(WN:List (Nat×Ent)):(s.put d v WN).look=updL WN s.look:=rfl
structure REL (P0:Nat→Prop)(E:Env)(s:St)(a:Act)(w:World):Prop where
  h:HREL P0 E s.look w
  s:SREL E s.sl a.tmps
  d:a.defers=[]
structure ActR where
  on:Bool
  v:AV
  RN:List Nat
  WN:List (Nat×Ent)
def Want (all:List Oper)(s:St)(o:Oper)(b:Bool):Prop:=
  match o.guard with
  | none=>b=true
  | some (j,want)=>∃ t,ycU all j=some t∧((∃ bb,getAt .bad s.sl t = .val (.bool bb)∧b=(bb==want))∨(getAt .bad s.sl t = .val undef∧b=false))
def Chain (P:Program)(all:List Oper):List Oper→St→List ActR→St→Prop
  | [],s,[],s'=>s'=s
  | o :: r,s,ac::acs,s'=>Want all s o ac.on∧(ac.on=true→Ok P o (opF (getAt .bad s.sl)) s.look ac.v ac.RN ac.WN)∧(ac.on=false→ac.v = .val undef∧ac.RN=[]∧ac.WN=[]) ∧
      Chain P all r (s.put o.dst ac.v ac.WN) acs s'
  | _,_,_,_=>False
def ydk (all:List Oper):List Oper→List ActR→List Va.Touch
  | o::r,ac::acs=>yb5 all o ac.RN ac.WN::ydk all r acs
  | _,_=>[]
theorem wanted_iff {ops:Array Oper} {s:St} {o:Oper} {b:Bool} {E:Env} {a:Act} (h:Want ops.toList s o b) (hs:SREL E s.sl a.tmps):Region.wanted o (yielded ops a.tmps)=b:=by
  unfold Want at h
  unfold Region.wanted
  split at h
  · rename_i hg;rw[hg];exact h.symm
  · rename_i j want hg
    rw[hg]
    obtain⟨t,h1,h⟩:=h
    have hv:=hs.val t
    rw[Array.getD_eq_getD_getElem?]at hv
    have hy0:yielded ops a.tmps j=match a.tmps[t]? with | some (.bool b)=>some b | _=>none:=by
      unfold yielded
      rw[yd1]at h1
      rw[← Array.getElem?_toList,h1]
      rfl
    rcases h with ⟨bb,h2,h3⟩ | ⟨h2,h3⟩
    · rw[h2]at hv
      have hv:=V_val.1 hv
      have ht:a.tmps[t]?=some (.bool bb):=by
        cases hh:a.tmps[t]? with
        | none=>rw[hh]at hv;simp[undef]at hv
        | some x=>rw[hh]at hv;simp at hv;rw[hv]
      rw[ht]at hy0
      simp only[hy0,h3]
      cases bb<;>cases want<;>rfl
    · rw[h2]at hv
      have hv:=V_val.1 hv
      have hy:yielded ops a.tmps j=none:=by
        rw[hy0]
        cases hh:a.tmps[t]? with
        | none=>rfl
        | some x=>rw[hh]at hv;simp at hv;rw[hv];rfl
      simp only[hy,h3]
      rfl
section
variable {P:Program}
theorem Ok.move {o:Oper}{op op':Operand→AV}{look look':Nat→Ent}{v:AV}{RN:List Nat}{WN:List (Nat×Ent)}(h:Ok P o op look v RN WN)(h1:∀ x∈o.op.operands.toList,op' x=op x)
    (h2:∀ q,q∈RN∨q∈WN.map Prod.fst→look' q=look q):Ok P o op' look' v RN WN:=λl2 P0 E w ρ ha hh hv=>h l2 P0 E w ρ (λq hq=>(ha q hq).trans (h2 q hq)) hh (λx hx=>h1 x hx ▸ hv x hx)
theorem op_wp {P0:Nat→Prop}{E:Env}{s:St}{a:Act}{w:World}{o:Oper}{ac:ActR}{K:Act→World→Prop}{Q:Exit→Act→World→Prop}(h:REL P0 E s a w)(hok:Ok P o (opF (getAt .bad s.sl)) s.look ac.v ac.RN ac.WN)
    (hK:∀ E' a' w',REL P0 E' (s.put o.dst ac.v ac.WN) a' w'→Ext P0 E w E' w'→K a' w'):o.wp P a w K Q:=by
  have hpost:∀ x w',Post P0 E s.look w ac.v ac.WN x w'→K (a.put o.dst x) w':=by
    intro x w' ⟨E',h1,h2,h3⟩
    refine hK E' _ w' ⟨?_,put_act (h.s.ext h2) h3,?_⟩ h2
    · rw[look_put];exact h1
    · cases o.dst with
      | none=>exact h.d
      | some d=>exact h.d
  unfold Oper.wp
  rcases hok s.look P0 E w a.eval (λ_ _=>rfl) h.h (λx _=>opF_V h.s.val x) with ⟨x,w',h1,h2⟩ | ⟨w',h1,h2⟩ | ⟨f,args,w1,h1,h2⟩
  · rw[h1];exact hpost x w' h2
  · rw[h1];exact hpost undef w' h2
  · rw[h1]
    refine Calls.mono h2 ?_
    rintro e w' ⟨x,rfl,h3⟩
    exact hpost x w' h3
theorem REL.put_undef {P0:Nat→Prop}{E:Env}{s:St}{a:Act}{w:World}(h:REL P0 E s a w)(d:Option Nat):REL P0 E (s.put d (.val undef) []) (a.put d undef) w:=
  ⟨h.h,put_act h.s V_undef,by cases d with | none=>exact h.d | some d=>exact h.d⟩
theorem chain_wp {P0:Nat→Prop}{ops:Array Oper}{Q:Exit→Act→World→Prop}:∀ (l:List Oper) (i:Nat) (s:St) (acs:List ActR) (s':St) (E:Env) (a:Act) (w:World),Chain P ops.toList l s acs s' →
    (∀ j,l[j]?=ops[i+j]?)→REL P0 E s a w→(∀ E' a' w',REL P0 E' s' a' w'→Ext P0 E w E' w'→Q .normal a' w')→wpOps P ops Q (List.range' i l.length) a w
  | [],i,s,[],s',E,a,w,hc,hl,h,hQ=>by
    rw[show s'=s from hc]at hQ
    exact hQ E a w h (.refl _ _ _)
  | [],i,s,_::_,s',E,a,w,hc,hl,h,hQ=>hc.elim
  | _::_,i,s,[],s',E,a,w,hc,hl,h,hQ=>hc.elim
  | o :: l,i,s,ac::acs,s',E,a,w,⟨h1,h2,h3,h4⟩,hl,h,hQ=>by
    rw[List.length_cons,List.range'_succ,wpOps_cons]
    have ho:ops[i]?=some o:=by have:=hl 0;simpa using this.symm
    have hl':∀ j,l[j]?=ops[i+1+j]?:=λj=>by have:=hl (j+1);rw[List.getElem?_cons_succ]at this;rw[this];congr 1;omega
    unfold wpOp
    rw[ho]
    simp only[]
    rw[wanted_iff h1 h.s]
    cases hb:ac.on with
    | true=>
      rw[if_pos rfl]
      refine .inl (op_wp h (h2 hb) (λE' a' w' hr hx => ?_))
      exact chain_wp l (i+1) _ acs s' E' a' w' h4 hl' hr (λE'' a'' w'' hr' hx'=>hQ E'' a'' w'' hr' (hx.trans hx'))
    | false=>
      rw[if_neg (by simp)]
      obtain⟨e1,_,e3⟩:=h3 hb
      rw[e1,e3]at h4
      exact chain_wp l (i+1) _ acs s' E _ w h4 hl' (REL.put_undef h o.dst) hQ
end
section
variable {P:Program}
def findW (r:Nat):List (Nat×Ent)→Option Ent
  | []=>none
  | (q,e)::t=>if r==q then some e else findW r t
theorem yc8 (WN:List (Nat×Ent))(f:Nat→Ent)(r:Nat):updL WN f r=match findW r WN with | some e=>e | none=>f r:=by
  induction WN with
  | nil=>rfl
  | cons x t ih=>
    obtain⟨q,e⟩:=x
    simp only[updL,findW]
    split
    · rfl
    · exact ih
theorem ydA {r:Nat}:∀ {WN:List (Nat×Ent)},r ∉ WN.map Prod.fst→findW r WN=none
  | [],_=>rfl
  | (q,e)::t,h=>by
    simp only[List.map_cons,List.mem_cons,not_or]at h
    simp only[findW]
    rw[if_neg (by simpa using h.1)]
    exact ydA h.2
def putF (len:Nat)(d:Option Nat)(v:AV)(f:Nat→AV)(t:Nat):AV:=if d=some t∧t<len then v else f t
structure FREL (P0:Nat→Prop)(E:Env)(len:Nat)(f:Nat→AV)(look:Nat→Ent)(a:Act)(w:World):Prop where
  h:HREL P0 E look w
  len:len=a.tmps.size
  val:∀ t,V E (f t) (a.tmps.getD t undef)
  d:a.defers=[]
theorem put_getAt (s:St)(d:Option Nat)(v:AV)(WN:List (Nat×Ent))(t:Nat):getAt .bad (s.put d v WN).sl t=putF s.sl.length d v (getAt .bad s.sl) t:=by
  unfold putF St.put
  cases d with
  | none=>simp
  | some d=>
    simp only[ybI]
    by_cases h:t=d
    · subst h;simp
    · rw[if_neg (λhh=>h hh.1),if_neg (λhh=>h (by injection hh.1 with e;exact e.symm))]
theorem length_put (s:St)(d:Option Nat)(v:AV)(WN:List (Nat×Ent)):(s.put d v WN).sl.length=s.sl.length:=by
  unfold St.put;cases d with
  | none=>rfl
  | some d=>exact ybC _ _ _
theorem FREL.put {P0:Nat→Prop} {E:Env} {len:Nat} {f:Nat→AV} {look:Nat→Ent} {a:Act} {w:World} (h:FREL P0 E len f look a w) (d:Option Nat) {v:AV} {x:Value} (hv:V E v x) :
    FREL P0 E len (putF len d v f) look (a.put d x) w:=by
  cases d with
  | none=>
    refine⟨h.h,h.len,λt => ?_,h.d⟩
    unfold putF
    rw[if_neg (by simp)]
    exact h.val t
  | some d=>
    refine⟨h.h,by simp only[Act.put,Array.size_setIfInBounds];exact h.len,λt => ?_,h.d⟩
    unfold putF
    have e:(a.put (some d) x).tmps.getD t undef=if t=d∧d<a.tmps.size then x else a.tmps.getD t undef:=by
      simp only[Act.put,Array.getD_eq_getD_getElem?,Array.getElem?_setIfInBounds]
      by_cases h:d=t
      · subst h
        by_cases h2:d<a.tmps.size
        · simp[h2]
        · simp[h2]
      · rw[if_neg h,if_neg (λhh=>h hh.1.symm)]
    rw[e]
    by_cases h1:t=d
    · subst h1
      by_cases h2:t<a.tmps.size
      · rw[if_pos ⟨rfl,h.len ▸ h2⟩,if_pos ⟨rfl,h2⟩];exact hv
      · rw[if_neg (λhh=>h2 (h.len ▸ hh.2)),if_neg (λhh=>h2 hh.2)];exact h.val t
    · rw[if_neg (λhh=>h1 (by injection hh.1 with e;exact e.symm)),if_neg (λhh=>h1 hh.1)];exact h.val t
theorem FREL.ext {P0:Nat→Prop}{E E':Env}{len:Nat}{f:Nat→AV}{look look':Nat→Ent}{a:Act}{w w':World}(h:FREL P0 E len f look a w)(hh:HREL P0 E' look' w')(hx:Ext P0 E w E' w') :
    FREL P0 E' len f look' a w':=⟨hh,h.len,λt=>V.ext hx _ _ (h.val t),h.d⟩
theorem FREL.eval {P0:Nat→Prop}{E:Env}{len:Nat}{f:Nat→AV}{look:Nat→Ent}{a:Act}{w:World}(h:FREL P0 E len f look a w)(x:Operand):V E (opF f x) (a.eval x):=opF_V h.val x
theorem opF_wp {P0:Nat→Prop}{E:Env}{len:Nat}{f:Nat→AV}{look:Nat→Ent}{a:Act}{w:World}{o:Oper}{v:AV}{RN:List Nat}{WN:List (Nat×Ent)}{K:Act→World→Prop}{Q:Exit→Act→World→Prop}
    (h:FREL P0 E len f look a w) (hok:Ok P o (opF f) look v RN WN)
    (hK:∀ E' a' w',FREL P0 E' len (putF len o.dst v f) (updL WN look) a' w'→Ext P0 E w E' w'→K a' w'):o.wp P a w K Q:=by
  have hpost:∀ x w',Post P0 E look w v WN x w'→K (a.put o.dst x) w':=by
    intro x w' ⟨E',h1,h2,h3⟩
    exact hK E' _ w' ((h.ext h1 h2).put o.dst h3) h2
  unfold Oper.wp
  rcases hok look P0 E w a.eval (λ_ _=>rfl) h.h (λx _=>h.eval x) with ⟨x,w',h1,h2⟩ | ⟨w',h1,h2⟩ | ⟨g,args,w1,h1,h2⟩
  · rw[h1];exact hpost x w' h2
  · rw[h1];exact hpost undef w' h2
  · rw[h1]
    refine Calls.mono h2 ?_
    rintro e w' ⟨x,rfl,h3⟩
    exact hpost x w' h3
def WantF (all:List Oper)(f:Nat→AV)(o:Oper)(b:Bool):Prop:=
  match o.guard with
  | none=>b=true
  | some (j,want)=>∃ t,ycU all j=some t∧((∃ bb,f t = .val (.bool bb)∧b=(bb==want))∨(f t = .val undef∧b=false))
theorem wantedF_iff {ops:Array Oper} {P0:Nat→Prop} {E:Env} {len:Nat} {f:Nat→AV} {look:Nat→Ent} {a:Act} {w:World} {o:Oper} {b:Bool} (h:WantF ops.toList f o b) (hs:FREL P0 E len f look a w) :
    Region.wanted o (yielded ops a.tmps)=b:=by
  unfold WantF at h
  unfold Region.wanted
  split at h
  · rename_i hg;rw[hg];exact h.symm
  · rename_i j want hg
    rw[hg]
    obtain⟨t,h1,h⟩:=h
    have hv:=hs.val t
    rw[Array.getD_eq_getD_getElem?]at hv
    have hy0:yielded ops a.tmps j=match a.tmps[t]? with | some (.bool b)=>some b | _=>none:=by
      unfold yielded
      rw[yd1]at h1
      rw[← Array.getElem?_toList,h1]
      rfl
    rcases h with ⟨bb,h2,h3⟩ | ⟨h2,h3⟩
    · rw[h2]at hv
      have hv:=V_val.1 hv
      have ht:a.tmps[t]?=some (.bool bb):=by
        cases hh:a.tmps[t]? with
        | none=>rw[hh]at hv;simp[undef]at hv
        | some x=>rw[hh]at hv;simp at hv;rw[hv]
      rw[ht]at hy0
      simp only[hy0,h3]
      cases bb<;>cases want<;>rfl
    · rw[h2]at hv
      have hv:=V_val.1 hv
      have hy:yielded ops a.tmps j=none:=by
        rw[hy0]
        cases hh:a.tmps[t]? with
        | none=>rfl
        | some x=>rw[hh]at hv;simp at hv;rw[hv];rfl
      simp only[hy,h3]
      rfl
def wSl (len:Nat)(l:List Oper)(acs:List ActR)(t j:Nat):Option AV:=
  match l[j]?,acs[j]? with
  | some o,some ac=>if o.dst=some t∧t<len then some ac.v else none
  | _,_=>none
def wHl (acs:List ActR)(r j:Nat):Option Ent:=
  match acs[j]? with
  | some ac=>findW r ac.WN
  | none=>none
theorem Chain.at {all:List Oper}:∀ (l:List Oper) (s:St) (acs:List ActR) (s':St),Chain P all l s acs s'→acs.length=l.length ∧
    (∀ k o ac,l[k]?=some o→acs[k]?=some ac→∃ f look,(∀ t,f t=lastW (wSl s.sl.length l acs t) tt (getAt .bad s.sl t) k)∧(∀ r,look r=lastW (wHl acs r) tt (s.look r) k) ∧
      WantF all f o ac.on∧(ac.on=true→Ok P o (opF f) look ac.v ac.RN ac.WN)∧(ac.on=false→ac.v = .val undef∧ac.RN=[]∧ac.WN=[])) ∧
    (∀ t,getAt .bad s'.sl t=lastW (wSl s.sl.length l acs t) tt (getAt .bad s.sl t) l.length)∧(∀ r,s'.look r=lastW (wHl acs r) tt (s.look r) l.length)∧s'.sl.length=s.sl.length
  | [],s,[],s',h=>by
    have h:s'=s:=h
    subst h
    exact⟨rfl,λk o ac hk=>by simp at hk,λt=>rfl,λr=>rfl,rfl⟩
  | [],s,_::_,s',h=>h.elim
  | _::_,s,[],s',h=>h.elim
  | o :: l,s,ac::acs,s',⟨h1,h2,h3,h4⟩=>by
    obtain⟨g1,g2,g3,g4,g5⟩:=Chain.at l _ acs s' h4
    have eS:∀ t k,lastW (wSl s.sl.length (o::l) (ac::acs) t) tt (getAt .bad s.sl t) (k+1)=lastW (wSl s.sl.length l acs t) tt (getAt .bad (s.put o.dst ac.v ac.WN).sl t) k:=by
      intro t k
      rw[lastW_shift,put_getAt]
      have e0:og (wSl s.sl.length (o::l) (ac::acs) t 0) (getAt .bad s.sl t)=putF s.sl.length o.dst ac.v (getAt .bad s.sl) t:=by
        simp only[wSl,List.getElem?_cons_zero,putF]
        by_cases hc:o.dst=some t∧t<s.sl.length
        · rw[if_pos hc,if_pos hc];rfl
        · rw[if_neg hc,if_neg hc];rfl
      rw[e0]
      rfl
    have eH:∀ r k,lastW (wHl (ac::acs) r) tt (s.look r) (k+1)=lastW (wHl acs r) tt ((s.put o.dst ac.v ac.WN).look r) k:=by
      intro r k
      have e0:og (wHl (ac::acs) r 0) (s.look r)=(s.put o.dst ac.v ac.WN).look r:=by
        rw[look_put,yc8];simp only[wHl,List.getElem?_cons_zero,og];cases findW r ac.WN<;>rfl
      rw[lastW_shift,e0]
      rfl
    rw[length_put]at g2 g3 g5
    refine⟨by simp[g1],λk o' ac' hk hk' => ?_,λt => ?_,λr => ?_,g5⟩
    · cases k with
      | zero=>
        simp only[List.getElem?_cons_zero]at hk hk'
        injection hk with hk;injection hk' with hk'
        subst hk hk'
        exact⟨getAt .bad s.sl,s.look,λt=>rfl,λr=>rfl,h1,λhh=>h2 hh,h3⟩
      | succ k=>
        obtain⟨f,look,k1,k2,k3⟩:=g2 k o' ac' (by simpa using hk) (by simpa using hk')
        exact⟨f,look,λt=>by rw[eS,k1],λr=>by rw[eH,k2],k3⟩
    · rw[List.length_cons,eS,g3]
    · rw[List.length_cons,eH,g4]
theorem yc5 {all:List Oper}:∀ (l:List Oper) (acs:List ActR) (k:Nat) (o:Oper) (ac:ActR),l[k]?=some o→acs[k]?=some ac→(ydk all l acs)[k]?=some (yb5 all o ac.RN ac.WN)
  | [],_,k,o,ac,h,_=>by simp at h
  | _::_,[],k,o,ac,_,h=>by simp at h
  | o::l,ac::acs,0,o',ac',h,h'=>by
    simp only[List.getElem?_cons_zero]at h h'
    injection h with h;injection h' with h'
    subst h h'
    simp[ydk]
  | o::l,ac::acs,k+1,o',ac',h,h'=>by
    simp only[ydk,List.getElem?_cons_succ]
    exact yc5 l acs k o' ac' (by simpa using h) (by simpa using h')
theorem touch_ws {all:List Oper}{o:Oper}{RN:List Nat}{WN:List (Nat×Ent)}{t:Nat}(h:o.dst=some t):t∈(yb5 all o RN WN).ws:=by
  unfold yb5;simp[h]
theorem WantF.congr {all:List Oper}{f f':Nat→AV}{o:Oper}{b:Bool}(h:WantF all f o b)(hf:∀ j want t,o.guard=some (j,want)→ycU all j=some t→f' t=f t):WantF all f' o b:=by
  unfold WantF at *
  split at h
  · exact h
  · rename_i j want hg
    obtain⟨t,h1,h⟩:=h
    refine⟨t,h1,?_⟩
    rcases h with ⟨bb,h2,h3⟩ | ⟨h2,h3⟩
    · exact .inl ⟨bb,(hf j want t hg h1).trans h2,h3⟩
    · exact .inr ⟨(hf j want t hg h1).trans h2,h3⟩
theorem any_wp [Gl] {P0:Nat→Prop} {ops:Array Oper} {Q:Exit→Act→World→Prop} {s s':St} {acs:List ActR} (hc:Chain P ops.toList ops.toList s acs s')
    (hb:ydS 0 ops.toList=true) (hcl:clearAll (aheads ops.toList []) 0 (ydk ops.toList ops.toList acs)=true) {E0:Env} {w0:World}
    (hQ:∀ E' a' w',REL P0 E' s' a' w'→Ext P0 E0 w0 E' w'→Q .normal a' w'):∀ (fuel:Nat) (listed:Array Bool) (E:Env) (a:Act) (w:World),listed.size=ops.size→open_ listed ops.size≤fuel →
    Closed ops.toList (λi=>listed.getD i false) →
    FREL P0 E s.sl.length (λt=>lastW (wSl s.sl.length ops.toList acs t) (λi=>listed.getD i false) (getAt .bad s.sl t) ops.size) (λr=>lastW (wHl acs r) (λi=>listed.getD i false) (s.look r) ops.size) a w →
    Ext P0 E0 w0 E w→wpAny P .any ops Q fuel listed a w:=by
  obtain⟨g1,g2,g3,g4,g5⟩:=hc.at
  have hlen:ops.toList.length=ops.size:=rfl
  -- behind all of them
  have fin:∀ (listed:Array Bool) (E:Env) (a:Act) (w:World),listed.size=ops.size→(∀ i,i<ops.size→listed.getD i false=true) →
    FREL P0 E s.sl.length (λt=>lastW (wSl s.sl.length ops.toList acs t) (λi=>listed.getD i false) (getAt .bad s.sl t) ops.size) (λr=>lastW (wHl acs r) (λi=>listed.getD i false) (s.look r) ops.size) a w →
    Ext P0 E0 w0 E w→Q .normal a w:=by
    intro listed E a w hs hall hf hx
    have e1:(λt=>lastW (wSl s.sl.length ops.toList acs t) (λi=>listed.getD i false) (getAt .bad s.sl t) ops.size)=getAt .bad s'.sl:=by
      funext t
      rw[g3 t]
      exact ycT _ (λj hj hne=>absurd (hall j hj) hne)
    have e2:(λr=>lastW (wHl acs r) (λi=>listed.getD i false) (s.look r) ops.size)=s'.look:=by
      funext r
      rw[g4 r]
      exact ycT _ (λj hj hne=>absurd (hall j hj) hne)
    rw[e1,e2]at hf
    exact hQ E a w ⟨hf.h,⟨g5.trans hf.len,hf.val⟩,hf.d⟩ hx
  -- while one is missing, one is ready
  have some_ready:∀ (listed:Array Bool),listed.size=ops.size→Region.ready .any ops listed=[]→∀ i,i<ops.size→listed.getD i false=true:=by
    intro listed hs hr i
    induction i using Nat.strongRecOn with
    | _ i ih=>
      intro hi
      cases hh:listed.getD i false with
      | true=>rfl
      | false=>
        have ho:ops.toList[i]?=some ops[i]:=by rw[Array.getElem?_toList,Array.getElem?_eq_getElem hi]
        have:i∈Region.ready .any ops listed:=(Va.mem_ready hs).2 ⟨ops[i],ho,hh,λe he hbe=>by
          have hlt:=ydR _ 0 hb i _ ho e he hbe
          exact ih e.on (by omega) (by omega)⟩
        rw[hr]at this;simp at this
  intro fuel
  induction fuel with
  | zero=>
    intro listed E a w hs hf hcl' hr hx
    have hall:∀ i,i<ops.size→listed.getD i false=true:=λi hi=>by
      rw[← ydV hs hi];exact open_zero (by omega) i hi
    refine⟨?_,fin listed E a w hs hall hr hx⟩
    apply List.eq_nil_iff_forall_not_mem.2
    intro i hi
    obtain⟨o,h1,h2,_⟩:=(Va.mem_ready hs).1 hi
    have hi':=(List.getElem?_eq_some_iff.1 h1).1
    rw[hall i hi']at h2;exact absurd h2 (by simp)
  | succ fuel ih=>
    intro listed E a w hs hf hcl' hr hx
    refine⟨λhnil=>fin listed E a w hs (some_ready listed hs hnil) hr hx,λi hi => ?_⟩
    obtain⟨o,ho,hli,hed⟩:=(Va.mem_ready hs).1 hi
    have hin:i<ops.size:=(List.getElem?_eq_some_iff.1 ho).1
    have haci:i<acs.length:=by rw[g1];exact hin
    have hac:acs[i]?=some acs[i]:=List.getElem?_eq_getElem haci
    obtain⟨f,look,k1,k2,k3,k4,k5⟩:=g2 i o _ ho hac
    -- no clash
    have hah:=ahead_in hcl' hb i o ho hed
    have before:∀ j oj,j<i→listed.getD j false=false→ops.toList[j]?=some oj→∀ acj,acs[j]?=some acj→(yb5 ops.toList oj acj.RN acj.WN).clash (yb5 ops.toList o acs[i].RN acs[i].WN)=false:=by
      intro j oj hji hlj hoj acj hacj
      cases hh:(yb5 ops.toList oj acj.RN acj.WN).clash (yb5 ops.toList o acs[i].RN acs[i].WN) with
      | false=>rfl
      | true=>
        have:=ydI _ 0 hcl j i _ _ hji (yc5 _ _ j oj acj hoj hacj) (yc5 _ _ i o _ ho hac) hh
        rw[Nat.zero_add,Nat.zero_add]at this
        have:=hah j this
        rw[hlj]at this;exact absurd this (by simp)
    have behind:∀ j oj,i<j→listed.getD j false=true→ops.toList[j]?=some oj→∀ acj,acs[j]?=some acj→(yb5 ops.toList o acs[i].RN acs[i].WN).clash (yb5 ops.toList oj acj.RN acj.WN)=false:=by
      intro j oj hij hlj hoj acj hacj
      cases hh:(yb5 ops.toList o acs[i].RN acs[i].WN).clash (yb5 ops.toList oj acj.RN acj.WN) with
      | false=>rfl
      | true=>
        have:=ydI _ 0 hcl i j _ _ hij (yc5 _ _ i o _ ho hac) (yc5 _ _ j oj acj hoj hacj) hh
        rw[Nat.zero_add,Nat.zero_add]at this
        have:=ahead_in hcl' hb j oj hoj (λe he hbe=>hcl' j oj hoj hlj e he hbe) i this
        rw[hli]at this;exact absurd this (by simp)
    have clash_parts:∀ {x y:Va.Touch},x.clash y=false→meets x.ws y.rs=false∧meets x.ws y.ws=false∧meets x.rs y.ws=false∧meets x.wn y.rn=false∧meets x.wn y.wn=false∧meets x.rn y.wn=false:=by
      intro x y h
      unfold Va.Touch.clash at h
      simp only[Bool.or_eq_false_iff]at h
      obtain⟨⟨⟨⟨⟨h1,h2⟩,h3⟩,h4⟩,h5⟩,h6⟩:=h
      exact⟨h1,h2,h3,h4,h5,h6⟩
    have wS_none:∀ {t j:Nat},(∀ oj acj,ops.toList[j]?=some oj→acs[j]?=some acj→oj.dst≠some t)→wSl s.sl.length ops.toList acs t j=none:=by
      intro t j h
      unfold wSl
      split
      · rename_i oj acj h1 h2
        rw[if_neg (λhh=>h oj acj h1 h2 hh.1)]
      · rfl
    have wH_none:∀ {r j:Nat},(∀ oj acj,ops.toList[j]?=some oj→acs[j]?=some acj→r ∉ acj.WN.map Prod.fst)→wHl acs r j=none:=by
      intro r j h
      unfold wHl
      split
      · rename_i acj h2
        have hj:j<ops.toList.length:=by rw[← g1];exact (List.getElem?_eq_some_iff.1 h2).1
        exact ydA (h _ acj (List.getElem?_eq_getElem hj) h2)
      · rfl
    have slot:∀ t,t∈(yb5 ops.toList o acs[i].RN acs[i].WN).rs→lastW (wSl s.sl.length ops.toList acs t) (λi=>listed.getD i false) (getAt .bad s.sl t) ops.size=f t:=by
      intro t ht
      rw[k1 t]
      refine agree hin hli (λj hj hlj => ?_) (λj hj hjn hlj => ?_)
      · exact wS_none (λoj acj h1 h2 hd=>ybJ (clash_parts (before j oj hj hlj h1 acj h2)).1 (touch_ws hd) ht)
      · exact wS_none (λoj acj h1 h2 hd=>ybJ (clash_parts (behind j oj hj hlj h1 acj h2)).2.2.1 ht (touch_ws hd))
    have obj:∀ r,r∈acs[i].RN∨r∈acs[i].WN.map Prod.fst→lastW (wHl acs r) (λi=>listed.getD i false) (s.look r) ops.size=look r:=by
      intro r hr'
      rw[k2 r]
      refine agree hin hli (λj hj hlj => ?_) (λj hj hjn hlj => ?_)
      · refine wH_none (λoj acj h1 h2 hd => ?_)
        obtain⟨_,_,_,c4,c5,_⟩:=clash_parts (before j oj hj hlj h1 acj h2)
        rcases hr' with hr' | hr'
        · exact ybJ c4 hd hr'
        · exact ybJ c5 hd hr'
      · refine wH_none (λoj acj h1 h2 hd => ?_)
        obtain⟨_,_,_,_,c5,c6⟩:=clash_parts (behind j oj hj hlj h1 acj h2)
        rcases hr' with hr' | hr'
        · exact ybJ c6 hr' hd
        · exact ybJ c5 hr' hd
    -- what stands behind it
    have eE:(λj=>(listed.setIfInBounds i true).getD j false)=λj=>j==i||listed.getD j false:=by
      funext j
      rw[Array.getD_eq_getD_getElem?,Array.getElem?_setIfInBounds]
      by_cases hji:i=j
      · subst hji;simp[hs,hin]
      · rw[if_neg hji,← Array.getD_eq_getD_getElem?]
        have:(j==i)=false:=by simpa using λh=>hji h.symm
        rw[this,Bool.false_or]
    have hclosed:Closed ops.toList (λj=>(listed.setIfInBounds i true).getD j false):=by
      rw[eE]
      intro k ok hok hk e he hbe
      simp only[Bool.or_eq_true,beq_iff_eq]at hk ⊢
      rcases hk with rfl | hk
      · rw[ho]at hok;injection hok with hok;subst hok
        exact .inr (hed e he hbe)
      · exact .inr (hcl' k ok hok hk e he hbe)
    have nslot:∀ t,lastW (wSl s.sl.length ops.toList acs t) (λj=>j==i||listed.getD j false) (getAt .bad s.sl t) ops.size =
        putF s.sl.length o.dst acs[i].v (λt=>lastW (wSl s.sl.length ops.toList acs t) (λi=>listed.getD i false) (getAt .bad s.sl t) ops.size) t:=by
      intro t
      unfold putF
      have ewi:wSl s.sl.length ops.toList acs t i=if o.dst=some t∧t<s.sl.length then some acs[i].v else none:=by
        unfold wSl;rw[ho,hac]
      by_cases hd:o.dst=some t∧t<s.sl.length
      · rw[if_pos hd]
        rw[if_pos hd]at ewi
        refine lastW_ins ewi _ hin (λj h1 h2 h3 => ?_)
        exact wS_none (λoj acj h4 h5 hd'=>ybJ (clash_parts (behind j oj h1 h3 h4 acj h5)).2.1 (touch_ws hd.1) (touch_ws hd'))
      · rw[if_neg hd]
        rw[if_neg hd]at ewi
        refine ycT _ (λj hj hne => ?_)
        by_cases hji:j=i
        · subst hji;exact ewi
        · exfalso;apply hne
          have:(j==i)=false:=by simpa using hji
          rw[this,Bool.false_or]
    have nobj:∀ r,lastW (wHl acs r) (λj=>j==i||listed.getD j false) (s.look r) ops.size=updL acs[i].WN (λr=>lastW (wHl acs r) (λi=>listed.getD i false) (s.look r) ops.size) r:=by
      intro r
      rw[yc8]
      have ewi:wHl acs r i=findW r acs[i].WN:=by unfold wHl;rw[hac]
      cases hfw:findW r acs[i].WN with
      | some e=>
        rw[hfw]at ewi
        refine lastW_ins ewi _ hin (λj h1 h2 h3 => ?_)
        refine wH_none (λoj acj h4 h5 hd' => ?_)
        refine ybJ (clash_parts (behind j oj h1 h3 h4 acj h5)).2.2.2.2.1 (x:=r) ?_ hd'
        apply Classical.byContradiction
        intro hn
        have:=ydA hn
        rw[hfw]at this;exact absurd this (by simp)
      | none=>
        rw[hfw]at ewi
        refine ycT _ (λj hj hne => ?_)
        by_cases hji:j=i
        · subst hji;exact ewi
        · exfalso;apply hne
          have:(j==i)=false:=by simpa using hji
          rw[this,Bool.false_or]
    have next:∀ E' a' w',FREL P0 E' s.sl.length (putF s.sl.length o.dst acs[i].v (λt=>lastW (wSl s.sl.length ops.toList acs t) (λi=>listed.getD i false) (getAt .bad s.sl t) ops.size))
        (updL acs[i].WN (λr=>lastW (wHl acs r) (λi=>listed.getD i false) (s.look r) ops.size)) a' w'→Ext P0 E w E' w'→wpAny P .any ops Q fuel (listed.setIfInBounds i true) a' w':=by
      intro E' a' w' hf' hx'
      refine ih _ E' a' w' (by rw[Array.size_setIfInBounds,hs]) ?_ hclosed ?_ (hx.trans hx')
      · have:=open_set hin hs (by rw[ydV hs hin];exact hli);omega
      · rw[eE]
        have e1:=funext nslot
        have e2:=funext nobj
        rw[e1,e2]
        exact hf'
    unfold wpOp
    rw[Array.getElem?_toList]at ho
    rw[ho]
    have hw:WantF ops.toList (λt=>lastW (wSl s.sl.length ops.toList acs t) (λi=>listed.getD i false) (getAt .bad s.sl t) ops.size) o acs[i].on:=by
      refine WantF.congr k3 (λj want t hg hgs=>slot t ?_)
      unfold yb5
      rw[hg]
      simp[hgs]
    simp only[]
    rw[wantedF_iff hw hr]
    cases hon:acs[i].on with
    | true=>
      rw[if_pos rfl]
      refine .inl ?_
      have hok:=Ok.move (k4 hon) (op':=opF (λt=>lastW (wSl s.sl.length ops.toList acs t) (λi=>listed.getD i false) (getAt .bad s.sl t) ops.size))
        (look':=λr=>lastW (wHl acs r) (λi=>listed.getD i false) (s.look r) ops.size) (λx hx => ?_) obj
      · exact opF_wp hr hok next
      · cases x with
        | tmp t=>exact slot t (by unfold yb5;simp[tmpsOf_mem hx])
        | _=>rfl
    | false=>
      rw[if_neg (by simp)]
      obtain⟨e1,_,e3⟩:=k5 hon
      refine next E _ w ?_ (.refl _ _ _)
      rw[e1,e3]
      exact hr.put o.dst V_undef
end
end Go.Co
