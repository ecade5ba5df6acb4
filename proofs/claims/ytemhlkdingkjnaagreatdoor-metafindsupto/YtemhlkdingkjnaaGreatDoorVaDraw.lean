/-
  Va, part 24: a region that draws its order.
-/
import Derived.Test.YtemhlkdingkjnaaGreatDoorVaSat
set_option linter.unusedVariables false
set_option linter.unusedSimpArgs false
namespace Go.Va
open Go
def lastW {α:Type}(wr:Nat→Option α)(E:Nat→Bool)(x0:α):Nat→α
  | 0=>x0
  | n+1=>if E n then (match wr n with | some v=>v | none=>lastW wr E x0 n) else lastW wr E x0 n
theorem ycT {α:Type}{wr:Nat→Option α}{E E':Nat→Bool}{x0:α}:∀ (n:Nat),(∀ j,j<n→E j≠E' j→wr j=none)→lastW wr E x0 n=lastW wr E' x0 n
  | 0,_=>rfl
  | n + 1,h=>by
    have ih:=ycT (x0:=x0) n (λj hj=>h j (by omega))
    simp only[lastW]
    by_cases he:E n=E' n
    · rw[he,ih]
    · have hw:=h n (by omega) he
      rw[hw,ih]
      cases E n<;>cases E' n<;>rfl
theorem lastW_ins {α:Type}{wr:Nat→Option α}{E:Nat→Bool}{x0 v:α}{k:Nat}(hv:wr k=some v):∀ (n:Nat),k<n→(∀ j,k<j→j<n→E j=true→wr j=none) →
    lastW wr (λj=>j==k||E j) x0 n=v
  | 0,hk,_=>by omega
  | n + 1,hk,h=>by
    simp only[lastW]
    by_cases hkn:n=k
    · subst hkn
      simp[hv]
    · have ih:=lastW_ins (x0:=x0) hv n (by omega) (λj h1 h2=>h j h1 (by omega))
      have hne:(n==k)=false:=by simpa using hkn
      simp only[hne,Bool.false_or,ih]
      cases hE:E n with
      | false=>rfl
      | true=>simp only[h n (by omega) (by omega) hE,if_true]
theorem lastW_cut [Gl]{α:Type}{wr:Nat→Option α}{x0:α}(k:Nat):∀ (n:Nat),k≤n→lastW wr (λj=>decide (j<k)) x0 n=lastW wr (λ_=>true) x0 k
  | 0, h => by have:k=0:=by omega
               subst this;rfl
  | n + 1,h=>by
    by_cases hk:k=n+1
    · subst hk
      exact ycT (n+1) (λj hj he=>absurd (by simpa using hj) he)
    · simp only[lastW]
      have:decide (n<k)=false:=by simp;omega
      simp only[this,Bool.false_eq_true,if_false]
      exact lastW_cut k n (by omega)
def findW (r:Nat):List (Nat×Ent)→Option Ent
  | []=>none
  | (q,e)::t=>if r==q then some e else findW r t
theorem yc8 (WN:List (Nat×Ent))(f:Nat→Ent)(r:Nat):updL WN f r=match findW r WN with | some e=>e | none=>f r:=by
  induction WN with
  | nil=>rfl
  | cons x t ih=>
    obtain⟨q,e⟩:=x
    simp only[updL,findW]
    split
    · rfl
    · exact ih
theorem ydA {r:Nat}:∀ {WN:List (Nat×Ent)},r ∉ WN.map Prod.fst→findW r WN=none
  | [],_=>rfl
  | (q,e)::t,h=>by
    simp only[List.map_cons,List.mem_cons,not_or]at h
    simp only[findW]
    rw[if_neg (by simpa using h.1)]
    exact ydA h.2
def opF (f:Nat→AV):Operand→AV
  | .tmp t=>f t
  | .const v=>ofVal v
  | .func g => .fn g .done
  | .global _ => .bad
theorem opAV_opF (sl:List AV):opAV sl=opF (getAt .bad sl):=by
  funext x;cases x<;>rfl
section
variable {P:Program} {c:Cfg} {R:Type}
theorem getAt_append_lt {α:Type}(d:α):∀ (l m:List α) (i:Nat),i<l.length→getAt d (l++m) i=getAt d l i
  | [],m,i,h=>by simp at h
  | x::l,m,0,h=>rfl
  | x::l,m,i+1,h=>by simp only[List.cons_append,getAt];exact getAt_append_lt d l m i (by simpa using h)
theorem getAt_append_self {α:Type}(d:α)(x:α):∀ (l:List α),getAt d (l++[x]) l.length=x
  | []=>rfl
  | y::l=>by simp only[List.cons_append,List.length_cons,getAt];exact getAt_append_self d x l
theorem aheads_spec [Gl]:∀ (ops:List Oper) (tab:List (List Nat)),(∀ i,i<tab.length→getAt [] (aheads ops tab) i=getAt [] tab i) ∧
    ∀ j o,ops[j]?=some o→∃ tab',getAt [] (aheads ops tab) (tab.length+j)=dedup (ahead tab' o.after.toList)∧tab'.length=tab.length+j∧(∀ i,i<tab'.length→getAt [] tab' i=getAt [] (aheads ops tab) i)
  | [],tab=>⟨λi _=>rfl,λj o h=>by simp at h⟩
  | o :: ops,tab=>by
    obtain⟨h1,h2⟩:=aheads_spec ops (tab++[dedup (ahead tab o.after.toList)])
    simp only[List.length_append,List.length_cons,List.length_nil,Nat.zero_add]at h1 h2
    refine⟨λi hi => ?_,λj o' hj => ?_⟩
    · simp only[aheads]
      rw[h1 i (by omega),getAt_append_lt _ _ _ _ hi]
    · simp only[aheads]
      cases j with
      | zero=>
        simp only[List.getElem?_cons_zero]at hj
        injection hj with hj;subst hj
        refine⟨tab,?_,by simp,λi hi => ?_⟩
        · rw[Nat.add_zero,h1 _ (by omega),getAt_append_self]
        · rw[h1 i (by omega),getAt_append_lt _ _ _ _ hi]
      | succ j=>
        simp only[List.getElem?_cons_succ]at hj
        obtain⟨tab',g1,g2,g3⟩:=h2 j o' hj
        exact⟨tab',by rw[show tab.length+(j+1)=tab.length+1+j by omega];exact g1,by omega,g3⟩
theorem mem_dedup {x:Nat}:∀ {l:List Nat},x∈dedup l→x∈l
  | [],h=>h
  | y :: l,h=>by
    simp only[dedup]at h
    split at h
    · exact List.mem_cons_of_mem _ (mem_dedup h)
    · rcases List.mem_cons.1 h with h | h
      · exact h ▸ List.mem_cons_self
      · exact List.mem_cons_of_mem _ (mem_dedup h)
theorem mem_ahead {x:Nat} {tab:List (List Nat)}:∀ {es:List Edge},x∈ahead tab es→∃ e∈es,Region.binds .any e=true∧(x=e.on∨x∈getAt [] tab e.on)
  | [],h=>by simp[ahead]at h
  | e :: es,h=>by
    simp only[ahead]at h
    split at h
    · rename_i hb
      rcases List.mem_append.1 h with h | h
      · rcases List.mem_cons.1 h with h | h
        · exact⟨e,by simp,hb,.inl h⟩
        · exact⟨e,by simp,hb,.inr h⟩
      · obtain⟨e',h1,h2⟩:=mem_ahead h;exact⟨e',by simp[h1],h2⟩
    · obtain⟨e',h1,h2⟩:=mem_ahead h;exact⟨e',by simp[h1],h2⟩
def Closed (ops:List Oper)(E:Nat→Bool):Prop:=∀ k o,ops[k]?=some o→E k=true→∀ e∈o.after.toList,Region.binds .any e=true→E e.on=true
theorem ydR:∀ (ops:List Oper) (i:Nat),ydS i ops=true→∀ j o,ops[j]?=some o→∀ e∈o.after.toList,Region.binds .any e=true→e.on<i+j
  | [],i,h,j,o,ho=>by simp at ho
  | o :: ops,i,h,j,o',ho=>by
    simp only[ydS,Bool.and_eq_true]at h
    cases j with
    | zero=>
      simp only[List.getElem?_cons_zero]at ho
      injection ho with ho;subst ho
      intro e he hb
      have:=List.all_eq_true.1 h.1 e he
      rw[hb]at this
      simpa using this
    | succ j=>
      intro e he hb
      have:=ydR ops (i+1) h.2 j o' (by simpa using ho) e he hb
      omega
theorem ahead_in [Gl] {ops:List Oper} {E:Nat→Bool} (hc:Closed ops E) (hb:ydS 0 ops=true):∀ (k:Nat) (o:Oper),ops[k]?=some o→(∀ e∈o.after.toList,Region.binds .any e=true→E e.on=true) →
    ∀ i∈getAt [] (aheads ops []) k,E i=true:=by
  intro k
  induction k using Nat.strongRecOn with
  | _ k ih=>
    intro o ho hE i hi
    obtain⟨_,h2⟩:=aheads_spec ops []
    obtain⟨tab',g1,g2,g3⟩:=h2 k o ho
    simp only[List.length_nil,Nat.zero_add]at g1 g2
    rw[g1]at hi
    obtain⟨e,he,hbe,hx⟩:=mem_ahead (mem_dedup hi)
    have hlt:=ydR ops 0 hb k o ho e he hbe
    rw[Nat.zero_add]at hlt
    rcases hx with rfl | hx
    · exact hE e he hbe
    · rw[g3 e.on (by omega)]at hx
      have hl:e.on<ops.length:=by
        have:=(List.getElem?_eq_some_iff.1 ho).1;omega
      exact ih e.on hlt ops[e.on] (List.getElem?_eq_getElem hl) (λe' he' hb'=>hc e.on _ (List.getElem?_eq_getElem hl) (hE e he hbe) e' he' hb') i hx
theorem clear1_spec {tab:List (List Nat)}{i:Nat}{a:Touch}:∀ (l:List Touch) (j:Nat),clear1 tab i a j l=true→∀ k b,l[k]?=some b→a.clash b=true→i∈getAt [] tab (j+k)
  | [],j,h,k,b,hb=>by simp at hb
  | b :: l,j,h,k,b',hb=>by
    simp only[clear1,Bool.and_eq_true]at h
    cases k with
    | zero=>
      simp only[List.getElem?_cons_zero]at hb
      injection hb with hb;subst hb
      intro hc
      have:=h.1
      rw[hc]at this
      simpa using this
    | succ k=>
      intro hc
      have:=clear1_spec l (j+1) h.2 k b' (by simpa using hb) hc
      rwa [show j+1+k=j+(k+1) by omega]at this
theorem ydI [Gl] {tab:List (List Nat)}:∀ (l:List Touch) (i:Nat),clearAll tab i l=true→∀ j k a b,j<k→l[j]?=some a→l[k]?=some b→a.clash b=true→i+j∈getAt [] tab (i+k)
  | [],i,h,j,k,a,b,hjk,ha,hb=>by simp at ha
  | a :: l,i,h,j,k,a',b,hjk,ha,hb=>by
    simp only[clearAll,Bool.and_eq_true]at h
    cases k with
    | zero=>omega
    | succ k=>
      cases j with
      | zero=>
        simp only[List.getElem?_cons_zero]at ha
        injection ha with ha;subst ha
        intro hc
        have:=clear1_spec l (i+1) h.1 k b (by simpa using hb) hc
        rwa [show i+1+k=i+(k+1) by omega]at this
      | succ j=>
        intro hc
        have:=ydI l (i+1) h.2 j k a' b (by omega) (by simpa using ha) (by simpa using hb) hc
        rw[show i+1+j=i+(j+1) by omega,show i+1+k=i+(k+1) by omega]at this
        exact this
theorem ybJ {a b:List Nat}(h:meets a b=false){x:Nat}(hx:x∈a):x ∉ b:=by
  intro hb
  have:meets a b=true:=List.any_eq_true.2 ⟨x,hx,by simpa using hb⟩
  rw[h]at this;exact absurd this (by simp)
theorem tmpsOf_mem {t:Nat}:∀ {l:List Operand},.tmp t∈l→t∈tmpsOf l
  | [],h=>by simp at h
  | x :: l,h=>by
    rcases List.mem_cons.1 h with rfl | h
    · exact List.mem_cons_self
    · have ih:=tmpsOf_mem h
      cases x with
      | tmp t'=>exact List.mem_cons_of_mem _ ih
      | _=>exact ih
theorem parts_congr {look:Nat→Ent}{e:Ty}{op op':Operand→AV}:∀ (ps:List (Nat×Operand)) (i:Nat),(∀ p∈ps,op p.2=op' p.2)→parts look e op i ps=parts look e op' i ps
  | [],_,_=>rfl
  | (j,x)::ps,i,h=>by
    have h1:=h (j,x) (by simp)
    simp only at h1
    simp only[parts,h1,parts_congr ps (i+1) (λp hp=>h p (by simp[hp]))]
theorem fieldsTo_congr {op op':Operand→AV}:∀ (ps:List (Nat×Operand)) (v:AV),(∀ p∈ps,op p.2=op' p.2)→fieldsTo op v ps=fieldsTo op' v ps
  | [],_,_=>rfl
  | (j, x)::ps,v,h=>by
    have h1:=h (j,x) (by simp)
    simp only at h1
    simp only[fieldsTo,h1]
    split
    · split
      · split
        · split
          · exact fieldsTo_congr ps _ (λp hp=>h p (by simp[hp]))
          · rfl
        · rfl
      · rfl
    · rfl
theorem aOp_congr [Gl]{o:Oper}{op op':Operand→AV}{look:Nat→Ent}{k:Kont R}(h:∀ x∈opnds o.op,op x=op' x):aOp c o op look k=aOp c o op' look k:=by
  unfold aOp
  cases ho:o.op<;>rw[ho]at h<;>simp only[opnds]at h<;>try rfl
  case move x=>simp only[h x (by simp)]
  case assign x=>simp only[h x (by simp)]
  case pick a b d=>simp only[h a (by simp),h b (by simp),h d (by simp)]
  case box t x=>simp only[h x (by simp)]
  case build t ps=>
    have hp:∀ p∈ps.toList,op p.2=op' p.2:=λp hp=>h p.2 (List.mem_map.2 ⟨p,hp,rfl⟩)
    simp only[parts_congr ps.toList 0 hp,fieldsTo_congr ps.toList _ hp]
  case buildSlice t n ps=>
    have hp:∀ p∈ps.toList,op p.2=op' p.2:=λp hp=>h p.2 (List.mem_map.2 ⟨p,hp,rfl⟩)
    simp only[parts_congr ps.toList 0 hp]
  case load t a=>simp only[h a (by simp)]
  case store t a x=>simp only[h a (by simp),h x (by simp)]
  case nilCheck x=>simp only[h x (by simp)]
  case binOp bo t x y t'=>simp only[h x (by simp),h y (by simp)]
  case unOp u t x=>cases u<;>simp only[h x (by simp)]
  case convert s d x=>simp only[h x (by simp)]
  case makeFunc f fi ca=>
    have hc:ca.toList.map op=ca.toList.map op':=List.map_congr_left (λx hx=>h x (List.mem_append.2 (.inr hx)))
    have hf:fi.toList.map op=fi.toList.map op':=List.map_congr_left (λx hx=>h x (List.mem_append.2 (.inl hx)))
    cases f<;>simp only[hc,hf]
  case makeMap t rs=>cases rs<;>simp
  case mapUpdate t a b v=>simp only[h a (by simp),h b (by simp),h v (by simp)]
  case insert t a b v=>simp only[h a (by simp),h b (by simp),h v (by simp)]
  case makeSlice t l m=>simp only[h l (by simp),h m (by simp)]
  case slice t x lo hi mx=>
    have h1:lo.map op=lo.map op':=by cases lo with | none=>rfl | some y=>simp[h y (by simp)]
    have h2:hi.map op=hi.map op':=by cases hi with | none=>rfl | some y=>simp[h y (by simp)]
    have h3:mx.map op=mx.map op':=by cases mx with | none=>rfl | some y=>simp[h y (by simp)]
    simp only[h x (by simp),h1,h2,h3]
  case fieldAddr t x j=>simp only[h x (by simp)]
  case field t x j=>simp only[h x (by simp)]
  case indexAddr t x i=>simp only[h x (by simp),h i (by simp)]
  case index t x i=>simp only[h x (by simp),h i (by simp)]
  case lookup t x i q=>simp only[h x (by simp),h i (by simp)]
  case extract x i=>simp only[h x (by simp)]
  case call q=>
    have hc:q.args.toList.map op=q.args.toList.map op':=List.map_congr_left (λx hx=>h x (by simp[hx]))
    cases hq:q.callee with
    | value f=>simp only[hq,hc,h f (by simp[hq])]
    | builtin b=>simp only[hq,hc]
    | invoke a b=>simp only[hq]
theorem Ok.move [Gl]{o:Oper}{op op':Operand→AV}{look look':Nat→Ent}{v:AV}{RN:List Nat}{WN:List (Nat×Ent)}(hT:TabOk P c.tab)(hΦ:∀ e∈c.Φ,EntryOk P e)(h:Ok P c o op look v RN WN)
    (h1:∀ x∈opnds o.op,op' x=op x) (h2:∀ q,q∈RN∨q∈WN.map Prod.fst→look' q=look q):Ok P c o op' look' v RN WN:=by
  have e:aOp c o op' look' (λv RN WN=>some (v,RN,WN))=some (v,RN,WN):=by
    rw[aOp_congr h1];exact h.loc look' h2 _ _
  obtain⟨v',RN',WN',g1,g2⟩:=aOp_ok hT hΦ e
  injection g1 with g1
  injection g1 with g1 g3
  injection g3 with g3 g4
  subst g1 g3 g4
  exact g2
def putF (len:Nat)(d:Option Nat)(v:AV)(f:Nat→AV)(t:Nat):AV:=if d=some t∧t<len then v else f t
structure FREL [Gl](P0 S0:Nat→Prop)(E:Env)(len:Nat)(f:Nat→AV)(look:Nat→Ent)(a:Act)(w:World):Prop where
  h:HREL P0 S0 E look w
  len:len=a.tmps.size
  val:∀ t,V E w (f t) (a.tmps.getD t undef)
  d:a.defers=[]
theorem put_getAt [Gl](s:St)(d:Option Nat)(v:AV)(WN:List (Nat×Ent))(t:Nat):getAt .bad (s.put d v WN).sl t=putF s.sl.length d v (getAt .bad s.sl) t:=by
  unfold putF St.put
  cases d with
  | none=>simp
  | some d=>
    simp only[ybI]
    by_cases h:t=d
    · subst h;simp
    · rw[if_neg (λhh=>h hh.1),if_neg (λhh=>h (by injection hh.1 with e;exact e.symm))]
theorem length_put [Gl](s:St)(d:Option Nat)(v:AV)(WN:List (Nat×Ent)):(s.put d v WN).sl.length=s.sl.length:=by
  unfold St.put;cases d with
  | none=>rfl
  | some d=>exact ybC _ _ _
theorem FREL.put [Gl] {P0 S0:Nat→Prop} {E:Env} {len:Nat} {f:Nat→AV} {look:Nat→Ent} {a:Act} {w:World} (h:FREL P0 S0 E len f look a w) (d:Option Nat) {v:AV} {x:Value} (hv:V E w v x) :
    FREL P0 S0 E len (putF len d v f) look (a.put d x) w:=by
  cases d with
  | none=>
    refine⟨h.h,h.len,λt => ?_,h.d⟩
    unfold putF
    rw[if_neg (by simp)]
    exact h.val t
  | some d=>
    refine⟨h.h,by simp only[Act.put,Array.size_setIfInBounds];exact h.len,λt => ?_,h.d⟩
    unfold putF
    have e:(a.put (some d) x).tmps.getD t undef=if t=d∧d<a.tmps.size then x else a.tmps.getD t undef:=by
      simp only[Act.put,Array.getD_eq_getD_getElem?,Array.getElem?_setIfInBounds]
      by_cases h:d=t
      · subst h
        by_cases h2:d<a.tmps.size
        · simp[h2]
        · simp[h2]
      · rw[if_neg h,if_neg (λhh=>h hh.1.symm)]
    rw[e]
    by_cases h1:t=d
    · subst h1
      by_cases h2:t<a.tmps.size
      · rw[if_pos ⟨rfl,h.len ▸ h2⟩,if_pos ⟨rfl,h2⟩];exact hv
      · rw[if_neg (λhh=>h2 (h.len ▸ hh.2)),if_neg (λhh=>h2 hh.2)];exact h.val t
    · rw[if_neg (λhh=>h1 (by injection hh.1 with e;exact e.symm)),if_neg (λhh=>h1 hh.1)];exact h.val t
theorem FREL.ext [Gl]{P0 S0:Nat→Prop}{E E':Env}{len:Nat}{f:Nat→AV}{look look':Nat→Ent}{a:Act}{w w':World}(h:FREL P0 S0 E len f look a w)(hh:HREL P0 S0 E' look' w')(hx:Ext P0 E w E' w') :
    FREL P0 S0 E' len f look' a w':=⟨hh,h.len,λt=>V.ext hx _ _ (h.val t),h.d⟩
theorem FREL.eval [Gl]{P0 S0:Nat→Prop}{E:Env}{len:Nat}{f:Nat→AV}{look:Nat→Ent}{a:Act}{w:World}(h:FREL P0 S0 E len f look a w):∀ x,V E w (opF f x) (a.eval x)
  | .tmp t=>h.val t
  | .const v=>ofVal_ok v
  | .func f=>by simp only[opF,Act.eval];rw[V_one rfl];exact⟨#[],rfl,rfl⟩
  | .global g => .bad
theorem opF_wp [Gl]{P0 S0:Nat→Prop}{E:Env}{len:Nat}{f:Nat→AV}{look:Nat→Ent}{a:Act}{w:World}{o:Oper}{v:AV}{RN:List Nat}{WN:List (Nat×Ent)}{K:Act→World→Prop}{Q:Exit→Act→World→Prop}
    (h:FREL P0 S0 E len f look a w) (hok:Ok P c o (opF f) look v RN WN)
    (hK:∀ E' a' w',FREL P0 S0 E' len (putF len o.dst v f) (updL WN look) a' w'→Ext P0 E w E' w'→K a' w'):o.wp P a w K Q:=by
  have hpost:∀ x w',OpPost P0 S0 E look w v WN x w'→K (a.put o.dst x) w':=by
    intro x w' ⟨E',h1,h2,h3⟩
    exact hK E' _ w' ((h.ext h1 h2).put o.dst h3) h2
  unfold Oper.wp
  rcases hok.run P0 S0 E w a.eval h.h h.eval with ⟨x,w',h1,h2⟩ | ⟨w',h1,h2⟩ | ⟨g,args,w1,h1,h2⟩
  · rw[h1];exact hpost x w' h2
  · rw[h1];exact hpost undef w' h2
  · rw[h1]
    refine Calls.mono h2 ?_
    rintro e w' ⟨x,rfl,h3⟩
    exact hpost x w' h3
def WantF (all:List Oper)(f:Nat→AV)(o:Oper)(b:Bool):Prop:=
  match o.guard with
  | none=>b=true
  | some (j,want)=>∃ t,ycU all j=some t∧((∃ bb,f t = .data .bool bb∧b=(bb==want))∨(f t = .tup .done∧b=false))
theorem wantedF_iff [Gl] {ops:Array Oper} {P0 S0:Nat→Prop} {E:Env} {len:Nat} {f:Nat→AV} {look:Nat→Ent} {a:Act} {w:World} {o:Oper} {b:Bool} (h:WantF ops.toList f o b) (hs:FREL P0 S0 E len f look a w) :
    Region.wanted o (yielded ops a.tmps)=b:=by
  unfold WantF at h
  unfold Region.wanted
  split at h
  · rename_i hg;rw[hg];exact h.symm
  · rename_i j want hg
    rw[hg]
    obtain⟨t,h1,h⟩:=h
    have hv:=hs.val t
    rw[Array.getD_eq_getD_getElem?]at hv
    have hy0:yielded ops a.tmps j=match a.tmps[t]? with | some (.bool b)=>some b | _=>none:=by
      unfold yielded
      rw[yd1]at h1
      rw[← Array.getElem?_toList,h1]
      rfl
    rcases h with ⟨bb,h2,h3⟩ | ⟨h2,h3⟩
    · rw[h2]at hv
      have hv:=ycY.1 hv
      have ht:a.tmps[t]?=some (.bool bb):=by
        cases hh:a.tmps[t]? with
        | none=>rw[hh]at hv;simp[undef]at hv
        | some x=>rw[hh]at hv;simp at hv;rw[hv]
      rw[ht]at hy0
      simp only[hy0,h3]
      cases bb<;>cases want<;>rfl
    · rw[h2,V_one rfl]at hv
      obtain⟨vs,hv,_⟩:=hv
      have hy:yielded ops a.tmps j=none:=by
        rw[hy0]
        cases hh:a.tmps[t]? with
        | none=>rfl
        | some x=>rw[hh]at hv;simp at hv;rw[hv]
      simp only[hy,h3]
      rfl
def wSl (len:Nat)(l:List Oper)(acs:List ActR)(t j:Nat):Option AV:=
  match l[j]?,acs[j]? with
  | some o,some ac=>if o.dst=some t∧t<len then some ac.v else none
  | _,_=>none
def wHl (acs:List ActR)(r j:Nat):Option Ent:=
  match acs[j]? with
  | some ac=>findW r ac.WN
  | none=>none
def tt:Nat→Bool:=λ_=>true
def og {α:Type}(m:Option α)(y:α):α:=match m with | some v=>v | none=>y
theorem lastW_shift {α:Type}{wr:Nat→Option α}{x0:α}:∀ k,lastW wr tt x0 (k+1)=lastW (λj=>wr (j+1)) tt (og (wr 0) x0) k
  | 0=>by simp only[lastW,tt,if_true,og]
  | k+1=>by
    have ih:=lastW_shift (wr:=wr) (x0:=x0) k
    have e1:lastW wr tt x0 (k+2)=match wr (k+1) with | some v=>v | none=>lastW wr tt x0 (k+1):=by simp only[lastW,tt,if_true]
    have e2:∀ (y:α),lastW (λj=>wr (j+1)) tt y (k+1)=match wr (k+1) with | some v=>v | none=>lastW (λj=>wr (j+1)) tt y k:=by intro y;simp only[lastW,tt,if_true]
    rw[e1,e2,ih]
theorem Chain.at [Gl] {all:List Oper}:∀ (l:List Oper) (s:St) (acs:List ActR) (s':St),Chain P c all l s acs s'→acs.length=l.length ∧
    (∀ k o ac,l[k]?=some o→acs[k]?=some ac→∃ f look,(∀ t,f t=lastW (wSl s.sl.length l acs t) tt (getAt .bad s.sl t) k)∧(∀ r,look r=lastW (wHl acs r) tt (s.look r) k) ∧
      WantF all f o ac.on∧(ac.on=true→Ok P c o (opF f) look ac.v ac.RN ac.WN)∧(ac.on=false→ac.v = .tup .done∧ac.RN=[]∧ac.WN=[])) ∧
    (∀ t,getAt .bad s'.sl t=lastW (wSl s.sl.length l acs t) tt (getAt .bad s.sl t) l.length)∧(∀ r,s'.look r=lastW (wHl acs r) tt (s.look r) l.length)∧s'.sl.length=s.sl.length
  | [],s,[],s',h=>by
    have h:s'=s:=h
    subst h
    exact⟨rfl,λk o ac hk=>by simp at hk,λt=>rfl,λr=>rfl,rfl⟩
  | [],s,_::_,s',h=>h.elim
  | _::_,s,[],s',h=>h.elim
  | o :: l,s,ac::acs,s',⟨h1,h2,h3,h4⟩=>by
    obtain⟨g1,g2,g3,g4,g5⟩:=Chain.at l _ acs s' h4
    have eS:∀ t k,lastW (wSl s.sl.length (o::l) (ac::acs) t) tt (getAt .bad s.sl t) (k+1)=lastW (wSl s.sl.length l acs t) tt (getAt .bad (s.put o.dst ac.v ac.WN).sl t) k:=by
      intro t k
      rw[lastW_shift,put_getAt]
      have e0:og (wSl s.sl.length (o::l) (ac::acs) t 0) (getAt .bad s.sl t)=putF s.sl.length o.dst ac.v (getAt .bad s.sl) t:=by
        simp only[wSl,List.getElem?_cons_zero,putF]
        by_cases hc:o.dst=some t∧t<s.sl.length
        · rw[if_pos hc,if_pos hc];rfl
        · rw[if_neg hc,if_neg hc];rfl
      rw[e0]
      rfl
    have eH:∀ r k,lastW (wHl (ac::acs) r) tt (s.look r) (k+1)=lastW (wHl acs r) tt ((s.put o.dst ac.v ac.WN).look r) k:=by
      intro r k
      have e0:og (wHl (ac::acs) r 0) (s.look r)=(s.put o.dst ac.v ac.WN).look r:=by
        rw[look_put,yc8];simp only[wHl,List.getElem?_cons_zero,og];cases findW r ac.WN<;>rfl
      rw[lastW_shift,e0]
      rfl
    rw[length_put]at g2 g3 g5
    refine⟨by simp[g1],λk o' ac' hk hk' => ?_,λt => ?_,λr => ?_,g5⟩
    · cases k with
      | zero=>
        simp only[List.getElem?_cons_zero]at hk hk'
        injection hk with hk;injection hk' with hk'
        subst hk hk'
        exact⟨getAt .bad s.sl,s.look,λt=>rfl,λr=>rfl,h1,λhh=>by rw[← opAV_opF];exact h2 hh,h3⟩
      | succ k=>
        obtain⟨f,look,k1,k2,k3⟩:=g2 k o' ac' (by simpa using hk) (by simpa using hk')
        exact⟨f,look,λt=>by rw[eS,k1],λr=>by rw[eH,k2],k3⟩
    · rw[List.length_cons,eS,g3]
    · rw[List.length_cons,eH,g4]
theorem yc5 {all:List Oper}:∀ (l:List Oper) (acs:List ActR) (k:Nat) (o:Oper) (ac:ActR),l[k]?=some o→acs[k]?=some ac→(ydk all l acs)[k]?=some (yb5 all o ac.RN ac.WN)
  | [],_,k,o,ac,h,_=>by simp at h
  | _::_,[],k,o,ac,_,h=>by simp at h
  | o::l,ac::acs,0,o',ac',h,h'=>by
    simp only[List.getElem?_cons_zero]at h h'
    injection h with h;injection h' with h'
    subst h h'
    simp[ydk]
  | o::l,ac::acs,k+1,o',ac',h,h'=>by
    simp only[ydk,List.getElem?_cons_succ]
    exact yc5 l acs k o' ac' (by simpa using h) (by simpa using h')
theorem touch_ws {all:List Oper}{o:Oper}{RN:List Nat}{WN:List (Nat×Ent)}{t:Nat}(h:o.dst=some t):t∈(yb5 all o RN WN).ws:=by
  unfold yb5;simp[h]
theorem agree [Gl]{α:Type}{wr:Nat→Option α}{x0:α}{E:Nat→Bool}{i n:Nat}(hi:i<n)(hE:E i=false)(h1:∀ j,j<i→E j=false→wr j=none)(h2:∀ j,i<j→j<n→E j=true→wr j=none) :
    lastW wr E x0 n=lastW wr tt x0 i:=by
  have ec:lastW wr (λj=>decide (j<i)) x0 n=lastW wr tt x0 i:=lastW_cut i n (by omega)
  rw[← ec]
  refine ycT n (λj hj hne => ?_)
  by_cases hji:j<i
  · refine h1 j hji ?_
    cases hh:E j with
    | false=>rfl
    | true=>rw[hh]at hne;simp[hji]at hne
  · by_cases hj2:j=i
    · subst hj2;rw[hE]at hne;simp at hne
    · refine h2 j (by omega) hj ?_
      cases hh:E j with
      | true=>rfl
      | false=>rw[hh]at hne;simp[hji]at hne
theorem WantF.congr {all:List Oper}{f f':Nat→AV}{o:Oper}{b:Bool}(h:WantF all f o b)(hf:∀ j want t,o.guard=some (j,want)→ycU all j=some t→f' t=f t):WantF all f' o b:=by
  unfold WantF at *
  split at h
  · exact h
  · rename_i j want hg
    obtain⟨t,h1,h⟩:=h
    refine⟨t,h1,?_⟩
    rcases h with ⟨bb,h2,h3⟩ | ⟨h2,h3⟩
    · exact .inl ⟨bb,(hf j want t hg h1).trans h2,h3⟩
    · exact .inr ⟨(hf j want t hg h1).trans h2,h3⟩
def open_ (listed:Array Bool)(n:Nat):Nat:=((List.range n).filter λi=>!listed.getD i true).length
theorem open_set {listed:Array Bool} {n i:Nat} (hi:i<n) (hs:listed.size=n) (hl:listed.getD i true=false):open_ (listed.setIfInBounds i true) n<open_ listed n:=by
  unfold open_
  have key:∀ (m:Nat),(∀ (hm:m≤n),((List.range m).filter λj=>!(listed.setIfInBounds i true).getD j true).length+(if i<m then 1 else 0)=((List.range m).filter λj=>!listed.getD j true).length):=by
    intro m
    induction m with
    | zero=>intro _;simp
    | succ m ih=>
      intro hm
      have ih:=ih (by omega)
      rw[List.range_succ,List.filter_append,List.filter_append,List.length_append,List.length_append,← ih]
      by_cases him:i=m
      · subst him
        have e1:(listed.setIfInBounds i true).getD i true=true:=by
          rw[Array.getD_eq_getD_getElem?,Array.getElem?_setIfInBounds];simp[hs,hi]
        simp only[List.filter_cons,List.filter_nil,e1,hl];simp
      · have e1:(listed.setIfInBounds i true).getD m true=listed.getD m true:=by
          rw[Array.getD_eq_getD_getElem?,Array.getElem?_setIfInBounds,if_neg him,← Array.getD_eq_getD_getElem?]
        rw[show (List.filter (λj=>!(listed.setIfInBounds i true).getD j true) [m]).length=(List.filter (λj=>!listed.getD j true) [m]).length by
          simp only[List.filter_cons,List.filter_nil,e1]]
        by_cases h:i<m
        · rw[if_pos h,if_pos (by omega)];omega
        · rw[if_neg h,if_neg (by omega)];omega
  have:=key n (Nat.le_refl _)
  rw[if_pos hi]at this
  omega
theorem open_zero {listed:Array Bool}{n:Nat}(h:open_ listed n=0):∀ i,i<n→listed.getD i true=true:=by
  intro i hi
  unfold open_ at h
  have h:=List.length_eq_zero_iff.1 h
  rw[List.filter_eq_nil_iff]at h
  have:=h i (List.mem_range.2 hi)
  simpa using this
theorem ydV {listed:Array Bool}{n i:Nat}(hs:listed.size=n)(hi:i<n):listed.getD i true=listed.getD i false:=by
  rw[Array.getD_eq_getD_getElem?,Array.getD_eq_getD_getElem?,Array.getElem?_eq_getElem (by omega)];rfl
theorem mem_ready [Gl]{ops:Array Oper}{listed:Array Bool}{i:Nat}(hs:listed.size=ops.size):i∈Region.ready .any ops listed↔∃ o,ops.toList[i]?=some o∧listed.getD i false=false∧∀ e∈o.after.toList,Region.binds .any e=true→listed.getD e.on false=true:=by
  unfold Region.ready
  rw[List.mem_filter,List.mem_range]
  constructor
  · rintro⟨h1,h2⟩
    rw[Bool.and_eq_true]at h2
    have ho:=Array.getElem?_eq_getElem h1
    rw[ho]at h2
    refine⟨ops[i],by rw[Array.getElem?_toList,ho],?_,λe he hb => ?_⟩
    · rw[← ydV hs h1];simpa using h2.1
    · have:=h2.2
      simp only[Option.map_some,Option.getD_some,Array.all_eq_true_iff_forall_mem]at this
      have:=this e (Array.mem_def.2 he)
      rw[hb]at this
      simpa using this
  · rintro⟨o,h1,h2,h3⟩
    rw[Array.getElem?_toList]at h1
    have hi:=(Array.getElem?_eq_some_iff.1 h1).1
    refine⟨hi,?_⟩
    rw[h1,ydV hs hi,h2]
    simp only[Bool.not_false,Bool.true_and,Option.map_some,Option.getD_some,Array.all_eq_true_iff_forall_mem]
    intro e he
    cases hb:Region.binds .any e with
    | false=>rfl
    | true=>rw[h3 e (Array.mem_def.1 he) hb];rfl
theorem any_wp [Gl] {P0 S0:Nat→Prop} {ops:Array Oper} {Q:Exit→Act→World→Prop} {s s':St} {acs:List ActR} (hT:TabOk P c.tab) (hΦ:∀ e∈c.Φ,EntryOk P e) (hc:Chain P c ops.toList ops.toList s acs s')
    (hb:ydS 0 ops.toList=true) (hcl:clearAll (aheads ops.toList []) 0 (ydk ops.toList ops.toList acs)=true) {E0:Env} {w0:World}
    (hQ:∀ E' a' w',REL P0 S0 E' s' a' w'→Ext P0 E0 w0 E' w'→Q .normal a' w'):∀ (fuel:Nat) (listed:Array Bool) (E:Env) (a:Act) (w:World),listed.size=ops.size→open_ listed ops.size≤fuel →
    Closed ops.toList (λi=>listed.getD i false) →
    FREL P0 S0 E s.sl.length (λt=>lastW (wSl s.sl.length ops.toList acs t) (λi=>listed.getD i false) (getAt .bad s.sl t) ops.size) (λr=>lastW (wHl acs r) (λi=>listed.getD i false) (s.look r) ops.size) a w →
    Ext P0 E0 w0 E w→wpAny P .any ops Q fuel listed a w:=by
  obtain⟨g1,g2,g3,g4,g5⟩:=hc.at
  have hlen:ops.toList.length=ops.size:=rfl
  -- behind all of them
  have fin:∀ (listed:Array Bool) (E:Env) (a:Act) (w:World),listed.size=ops.size→(∀ i,i<ops.size→listed.getD i false=true) →
    FREL P0 S0 E s.sl.length (λt=>lastW (wSl s.sl.length ops.toList acs t) (λi=>listed.getD i false) (getAt .bad s.sl t) ops.size) (λr=>lastW (wHl acs r) (λi=>listed.getD i false) (s.look r) ops.size) a w →
    Ext P0 E0 w0 E w→Q .normal a w:=by
    intro listed E a w hs hall hf hx
    have e1:(λt=>lastW (wSl s.sl.length ops.toList acs t) (λi=>listed.getD i false) (getAt .bad s.sl t) ops.size)=getAt .bad s'.sl:=by
      funext t
      rw[g3 t]
      exact ycT _ (λj hj hne=>absurd (hall j hj) hne)
    have e2:(λr=>lastW (wHl acs r) (λi=>listed.getD i false) (s.look r) ops.size)=s'.look:=by
      funext r
      rw[g4 r]
      exact ycT _ (λj hj hne=>absurd (hall j hj) hne)
    rw[e1,e2]at hf
    exact hQ E a w ⟨hf.h,⟨g5.trans hf.len,hf.val⟩,hf.d⟩ hx
  -- while one is missing, one is ready
  have some_ready:∀ (listed:Array Bool),listed.size=ops.size→Region.ready .any ops listed=[]→∀ i,i<ops.size→listed.getD i false=true:=by
    intro listed hs hr i
    induction i using Nat.strongRecOn with
    | _ i ih=>
      intro hi
      cases hh:listed.getD i false with
      | true=>rfl
      | false=>
        have ho:ops.toList[i]?=some ops[i]:=by rw[Array.getElem?_toList,Array.getElem?_eq_getElem hi]
        have:i∈Region.ready .any ops listed:=(mem_ready hs).2 ⟨ops[i],ho,hh,λe he hbe=>by
          have hlt:=ydR _ 0 hb i _ ho e he hbe
          exact ih e.on (by omega) (by omega)⟩
        rw[hr]at this;simp at this
  intro fuel
  induction fuel with
  | zero=>
    intro listed E a w hs hf hcl' hr hx
    have hall:∀ i,i<ops.size→listed.getD i false=true:=λi hi=>by
      rw[← ydV hs hi];exact open_zero (by omega) i hi
    refine⟨?_,fin listed E a w hs hall hr hx⟩
    apply List.eq_nil_iff_forall_not_mem.2
    intro i hi
    obtain⟨o,h1,h2,_⟩:=(mem_ready hs).1 hi
    have hi':=(List.getElem?_eq_some_iff.1 h1).1
    rw[hall i hi']at h2;exact absurd h2 (by simp)
  | succ fuel ih=>
    intro listed E a w hs hf hcl' hr hx
    refine⟨λhnil=>fin listed E a w hs (some_ready listed hs hnil) hr hx,λi hi => ?_⟩
    obtain⟨o,ho,hli,hed⟩:=(mem_ready hs).1 hi
    have hin:i<ops.size:=(List.getElem?_eq_some_iff.1 ho).1
    have haci:i<acs.length:=by rw[g1];exact hin
    have hac:acs[i]?=some acs[i]:=List.getElem?_eq_getElem haci
    obtain⟨f,look,k1,k2,k3,k4,k5⟩:=g2 i o _ ho hac
    -- no clash
    have hah:=ahead_in hcl' hb i o ho hed
    have before:∀ j oj,j<i→listed.getD j false=false→ops.toList[j]?=some oj→∀ acj,acs[j]?=some acj→(yb5 ops.toList oj acj.RN acj.WN).clash (yb5 ops.toList o acs[i].RN acs[i].WN)=false:=by
      intro j oj hji hlj hoj acj hacj
      cases hh:(yb5 ops.toList oj acj.RN acj.WN).clash (yb5 ops.toList o acs[i].RN acs[i].WN) with
      | false=>rfl
      | true=>
        have:=ydI _ 0 hcl j i _ _ hji (yc5 _ _ j oj acj hoj hacj) (yc5 _ _ i o _ ho hac) hh
        rw[Nat.zero_add,Nat.zero_add]at this
        have:=hah j this
        rw[hlj]at this;exact absurd this (by simp)
    have behind:∀ j oj,i<j→listed.getD j false=true→ops.toList[j]?=some oj→∀ acj,acs[j]?=some acj→(yb5 ops.toList o acs[i].RN acs[i].WN).clash (yb5 ops.toList oj acj.RN acj.WN)=false:=by
      intro j oj hij hlj hoj acj hacj
      cases hh:(yb5 ops.toList o acs[i].RN acs[i].WN).clash (yb5 ops.toList oj acj.RN acj.WN) with
      | false=>rfl
      | true=>
        have:=ydI _ 0 hcl i j _ _ hij (yc5 _ _ i o _ ho hac) (yc5 _ _ j oj acj hoj hacj) hh
        rw[Nat.zero_add,Nat.zero_add]at this
        have:=ahead_in hcl' hb j oj hoj (λe he hbe=>hcl' j oj hoj hlj e he hbe) i this
        rw[hli]at this;exact absurd this (by simp)
    have clash_parts:∀ {x y:Touch},x.clash y=false→meets x.ws y.rs=false∧meets x.ws y.ws=false∧meets x.rs y.ws=false∧meets x.wn y.rn=false∧meets x.wn y.wn=false∧meets x.rn y.wn=false:=by
      intro x y h
      unfold Touch.clash at h
      simp only[Bool.or_eq_false_iff]at h
      obtain⟨⟨⟨⟨⟨h1,h2⟩,h3⟩,h4⟩,h5⟩,h6⟩:=h
      exact⟨h1,h2,h3,h4,h5,h6⟩
    have wS_none:∀ {t j:Nat},(∀ oj acj,ops.toList[j]?=some oj→acs[j]?=some acj→oj.dst≠some t)→wSl s.sl.length ops.toList acs t j=none:=by
      intro t j h
      unfold wSl
      split
      · rename_i oj acj h1 h2
        rw[if_neg (λhh=>h oj acj h1 h2 hh.1)]
      · rfl
    have wH_none:∀ {r j:Nat},(∀ oj acj,ops.toList[j]?=some oj→acs[j]?=some acj→r ∉ acj.WN.map Prod.fst)→wHl acs r j=none:=by
      intro r j h
      unfold wHl
      split
      · rename_i acj h2
        have hj:j<ops.toList.length:=by rw[← g1];exact (List.getElem?_eq_some_iff.1 h2).1
        exact ydA (h _ acj (List.getElem?_eq_getElem hj) h2)
      · rfl
    have slot:∀ t,t∈(yb5 ops.toList o acs[i].RN acs[i].WN).rs→lastW (wSl s.sl.length ops.toList acs t) (λi=>listed.getD i false) (getAt .bad s.sl t) ops.size=f t:=by
      intro t ht
      rw[k1 t]
      refine agree hin hli (λj hj hlj => ?_) (λj hj hjn hlj => ?_)
      · exact wS_none (λoj acj h1 h2 hd=>ybJ (clash_parts (before j oj hj hlj h1 acj h2)).1 (touch_ws hd) ht)
      · exact wS_none (λoj acj h1 h2 hd=>ybJ (clash_parts (behind j oj hj hlj h1 acj h2)).2.2.1 ht (touch_ws hd))
    have obj:∀ r,r∈acs[i].RN∨r∈acs[i].WN.map Prod.fst→lastW (wHl acs r) (λi=>listed.getD i false) (s.look r) ops.size=look r:=by
      intro r hr'
      rw[k2 r]
      refine agree hin hli (λj hj hlj => ?_) (λj hj hjn hlj => ?_)
      · refine wH_none (λoj acj h1 h2 hd => ?_)
        obtain⟨_,_,_,c4,c5,_⟩:=clash_parts (before j oj hj hlj h1 acj h2)
        rcases hr' with hr' | hr'
        · exact ybJ c4 hd hr'
        · exact ybJ c5 hd hr'
      · refine wH_none (λoj acj h1 h2 hd => ?_)
        obtain⟨_,_,_,_,c5,c6⟩:=clash_parts (behind j oj hj hlj h1 acj h2)
        rcases hr' with hr' | hr'
        · exact ybJ c6 hr' hd
        · exact ybJ c5 hr' hd
    -- what stands behind it
    have eE:(λj=>(listed.setIfInBounds i true).getD j false)=λj=>j==i||listed.getD j false:=by
      funext j
      rw[Array.getD_eq_getD_getElem?,Array.getElem?_setIfInBounds]
      by_cases hji:i=j
      · subst hji;simp[hs,hin]
      · rw[if_neg hji,← Array.getD_eq_getD_getElem?]
        have:(j==i)=false:=by simpa using λh=>hji h.symm
        rw[this,Bool.false_or]
    have hclosed:Closed ops.toList (λj=>(listed.setIfInBounds i true).getD j false):=by
      rw[eE]
      intro k ok hok hk e he hbe
      simp only[Bool.or_eq_true,beq_iff_eq]at hk ⊢
      rcases hk with rfl | hk
      · rw[ho]at hok;injection hok with hok;subst hok
        exact .inr (hed e he hbe)
      · exact .inr (hcl' k ok hok hk e he hbe)
    have nslot:∀ t,lastW (wSl s.sl.length ops.toList acs t) (λj=>j==i||listed.getD j false) (getAt .bad s.sl t) ops.size =
        putF s.sl.length o.dst acs[i].v (λt=>lastW (wSl s.sl.length ops.toList acs t) (λi=>listed.getD i false) (getAt .bad s.sl t) ops.size) t:=by
      intro t
      unfold putF
      have ewi:wSl s.sl.length ops.toList acs t i=if o.dst=some t∧t<s.sl.length then some acs[i].v else none:=by
        unfold wSl;rw[ho,hac]
      by_cases hd:o.dst=some t∧t<s.sl.length
      · rw[if_pos hd]
        rw[if_pos hd]at ewi
        refine lastW_ins ewi _ hin (λj h1 h2 h3 => ?_)
        exact wS_none (λoj acj h4 h5 hd'=>ybJ (clash_parts (behind j oj h1 h3 h4 acj h5)).2.1 (touch_ws hd.1) (touch_ws hd'))
      · rw[if_neg hd]
        rw[if_neg hd]at ewi
        refine ycT _ (λj hj hne => ?_)
        by_cases hji:j=i
        · subst hji;exact ewi
        · exfalso;apply hne
          have:(j==i)=false:=by simpa using hji
          rw[this,Bool.false_or]
    have nobj:∀ r,lastW (wHl acs r) (λj=>j==i||listed.getD j false) (s.look r) ops.size=updL acs[i].WN (λr=>lastW (wHl acs r) (λi=>listed.getD i false) (s.look r) ops.size) r:=by
      intro r
      rw[yc8]
      have ewi:wHl acs r i=findW r acs[i].WN:=by unfold wHl;rw[hac]
      cases hfw:findW r acs[i].WN with
      | some e=>
        rw[hfw]at ewi
        refine lastW_ins ewi _ hin (λj h1 h2 h3 => ?_)
        refine wH_none (λoj acj h4 h5 hd' => ?_)
        refine ybJ (clash_parts (behind j oj h1 h3 h4 acj h5)).2.2.2.2.1 (x:=r) ?_ hd'
        apply Classical.byContradiction
        intro hn
        have:=ydA hn
        rw[hfw]at this;exact absurd this (by simp)
      | none=>
        rw[hfw]at ewi
        refine ycT _ (λj hj hne => ?_)
        by_cases hji:j=i
        · subst hji;exact ewi
        · exfalso;apply hne
          have:(j==i)=false:=by simpa using hji
          rw[this,Bool.false_or]
    have next:∀ E' a' w',FREL P0 S0 E' s.sl.length (putF s.sl.length o.dst acs[i].v (λt=>lastW (wSl s.sl.length ops.toList acs t) (λi=>listed.getD i false) (getAt .bad s.sl t) ops.size))
        (updL acs[i].WN (λr=>lastW (wHl acs r) (λi=>listed.getD i false) (s.look r) ops.size)) a' w'→Ext P0 E w E' w'→wpAny P .any ops Q fuel (listed.setIfInBounds i true) a' w':=by
      intro E' a' w' hf' hx'
      refine ih _ E' a' w' (by rw[Array.size_setIfInBounds,hs]) ?_ hclosed ?_ (hx.trans hx')
      · have:=open_set hin hs (by rw[ydV hs hin];exact hli);omega
      · rw[eE]
        have e1:=funext nslot
        have e2:=funext nobj
        rw[e1,e2]
        exact hf'
    unfold wpOp
    rw[Array.getElem?_toList]at ho
    rw[ho]
    have hw:WantF ops.toList (λt=>lastW (wSl s.sl.length ops.toList acs t) (λi=>listed.getD i false) (getAt .bad s.sl t) ops.size) o acs[i].on:=by
      refine WantF.congr k3 (λj want t hg hgs=>slot t ?_)
      unfold yb5
      rw[hg]
      simp[hgs]
    simp only[]
    rw[wantedF_iff hw hr]
    cases hon:acs[i].on with
    | true=>
      rw[if_pos rfl]
      refine .inl ?_
      have hok:=(k4 hon).move hT hΦ (op':=opF (λt=>lastW (wSl s.sl.length ops.toList acs t) (λi=>listed.getD i false) (getAt .bad s.sl t) ops.size))
        (look':=λr=>lastW (wHl acs r) (λi=>listed.getD i false) (s.look r) ops.size) (λx hx => ?_) obj
      · exact opF_wp hr hok next
      · cases x with
        | tmp t=>exact slot t (by unfold yb5;simp[tmpsOf_mem hx])
        | _=>rfl
    | false=>
      rw[if_neg (by simp)]
      obtain⟨e1,_,e3⟩:=k5 hon
      refine next E _ w ?_ (.refl _ _ _)
      rw[e1,e3]
      exact hr.put o.dst .undef
end
end Go.Va
