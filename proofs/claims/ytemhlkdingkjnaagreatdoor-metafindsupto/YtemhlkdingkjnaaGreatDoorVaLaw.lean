/-
  Va, part 29: from a statement's arguments to data; from a law's function to what its statement asks.
-/
import Derived.Test.YtemhlkdingkjnaaGreatDoorVaEntry
import Derived.Carry
import Derived.ReadAgain
import Derived.ChangeSame
import Derived.OpenShut
import Derived.Deep.Slices
set_option linter.unusedVariables false
set_option linter.unusedSimpArgs false
namespace Go.Va
open Go Go.ChangeShapes Go.WideShapes
mutual
def bulk {H:Type}:DataW H→Nat
  | .lit (.string bytes)=>bytes.length+1
  | .lit _=>1
  | .nil=>1
  | .ptr d=>bulk d+1
  | .slice elems spare=>bulkL elems+bulkL spare+1
  | .agg parts=>bulkL parts+1
  | .iface _ d=>bulk d+1
  | .map entries=>bulkE entries+1
  | .held _=>1
def bulkL {H:Type}:List (DataW H)→Nat
  | []=>0
  | d::r=>bulk d+bulkL r
def bulkE {H:Type}:List (Lit×DataW H)→Nat
  | []=>0
  | x::r=>bulkX x+bulkE r
def bulkX {H:Type}:Lit×DataW H→Nat
  | (.string bytes,d)=>bytes.length+bulk d+1
  | (_,d)=>bulk d+1
end
def Ty.plain:Ty→Bool
  | .slice e=>e.plain&&decide (1≤e.sz)
  | .arr _ e=>e.plain
  | .pair a b=>a.plain&&b.plain
  | .opq _=>false
  | .smap=>false
  | .mapT _ _=>false
  | _=>true
def Wf:(T:Ty)→Den T→Prop
  | .int k,n=>k.min≤n∧n≤k.max
  | .bool,_=>True
  | .str,s=>s.size≤maxLen
  | .slice e,l=>l.length≤maxLen∧∀ x∈l,Wf e x
  | .arr n e,l=>l.length=n∧∀ x∈l,Wf e x
  | .pair a b,x=>Wf a x.1∧Wf b x.2
  | .unit,_=>True
  | .opq _,_=>True
  | .smap,_=>True
  | .mapT _ _,_=>True
def vol:(T:Ty)→Den T→Nat
  | .int _,_=>1
  | .bool,_=>1
  | .str,s=>s.size+1
  | .slice e,l=>(l.map (vol e)).sum+1
  | .arr _ e,l=>(l.map (vol e)).sum+1
  | .pair a b,x=>vol a x.1+vol b x.2
  | .unit,_=>0
  | .opq _,_=>1
  | .smap,_=>1
  | .mapT _ _,_=>1
section
variable {H:Type} {enc:TypeId×Value→H} {P:Program} {w:World}
theorem cellsOf_eq {T:Ty}{t:TypeId}(h:TyIs P T t):P.cellsOf t=T.sz:=by
  obtain⟨i,h1,h2,_⟩:=h.info
  unfold Program.cellsOf
  rw[h1];simpa using h2
theorem bulkL_append:∀ (a b:List (DataW H)),bulkL (a++b)=bulkL a+bulkL b
  | [],b=>by simp[bulkL]
  | x::a,b=>by simp[bulkL,bulkL_append a b];omega
theorem gather {e:Ty} {S:Nat→Prop} {R:Nat→List Value→Prop} {xs:List (DataW H×List MemPlace)}:∀ (m:Nat),m≤xs.length→(∀ i,i<m→∃ c d,R i c∧c.length=e.sz∧Rd S w e d c∧Wf e d∧vol e d≤bulk (xs.getD i (.nil,[])).1) →
    ∃ (l:List (Den e)) (cells:List Value),l.length=m∧RdL (Rd S w e) l cells∧(∀ i,i<m→∃ c,R i c∧c=(cells.drop (i*e.sz)).take e.sz)∧cells.length=m*e.sz∧(∀ x∈l,Wf e x)∧(l.map (vol e)).sum≤bulkL ((xs.take m).map (·.1))
  | 0,_,_=>⟨[],[],rfl,rfl,λi hi=>by omega,by simp,by simp,by simp[bulkL]⟩
  | m + 1,hm,h=>by
    obtain⟨l,cells,h1,h2,h3,h4,h5,h6⟩:=gather (S:=S) (R:=R) (xs:=xs) m (by omega) (λi hi=>h i (by omega))
    obtain⟨c,d,k1,k2,k3,k4,k5⟩:=h m (by omega)
    refine⟨l++[d],cells++c,by simp[h1],RdL.append _ _ _ _ h2 ⟨c,[],by simp,k3,rfl⟩,λi hi => ?_,?_,?_,?_⟩
    · by_cases him:i=m
      · subst him
        refine⟨c,k1,?_⟩
        rw[List.drop_append,← h4,List.drop_length]
        simp[k2.symm ▸ List.take_length]
      · obtain⟨c',g1,g2⟩:=h3 i (by omega)
        refine⟨c',g1,?_⟩
        rw[g2]
        have hle:i*e.sz+e.sz≤cells.length:=by
          rw[h4,← Nat.succ_mul];exact Nat.mul_le_mul_right _ (by omega)
        rw[List.drop_append_of_le_length (by omega),List.take_append_of_le_length (by simp;omega)]
    · rw[List.length_append,h4,k2,Nat.succ_mul]
    · intro x hx
      rcases List.mem_append.1 hx with hx | hx
      · exact h5 x hx
      · simp at hx;rw[hx];exact k4
    · rw[List.map_append,List.sum_append]
      have e1:xs.take (m+1)=xs.take m++[xs.getD m (.nil,[])]:=by
        rw[List.take_succ_eq_append_getElem (by omega),List.getD_eq_getElem?_getD,List.getElem?_eq_getElem (by omega)];rfl
      rw[e1,List.map_append,bulkL_append]
      simp[bulkL]
      simp at k5 h6
      omega
theorem wf_range {k:IntKind}{n:Int}(h:(Lit.int k n).wf=true):k.min≤n∧n≤k.max:=by
  simpa[Lit.wf]using h
theorem rd_of_trod:∀ (T:Ty),T.plain=true →
    (∀ (t:TypeId) (fuel:Nat) (cs:List Value) (x:DataW H×List MemPlace),TyIs P T t→DataW.trod enc P w 0 (λ_=>true) true fuel t cs=some x→∃ d,Rd (λb=>b<w.heap.size) w T d cs∧Wf T d∧vol T d≤bulk x.1) ∧
    (∀ (fs:List Field) (off fuel:Nat) (cs:List Value) (xs:List (DataW H×List MemPlace)),(TF P T).2 fs off→cs.length=off+T.sz→xs.length=fs.length →
      (∀ (i:Nat) (f:Field),fs[i]?=some f→DataW.trod enc P w 0 (λ_=>true) true fuel f.type ((cs.drop f.offset).take (P.cellsOf f.type))=xs[i]?) →
      ∃ d,Rd (λb=>b<w.heap.size) w T d (cs.drop off)∧Wf T d∧vol T d≤bulkL (xs.map (·.1)))
  | .int k,_=>⟨λt fuel cs x ht h=>by
      obtain⟨n,rfl,rfl,hw⟩:=DataW.trod_int ht.1 h
      exact⟨n,rfl,wf_range hw,by simp[vol,bulk]⟩,λfs off fuel cs xs h=>h.elim⟩
  | .bool,_=>⟨λt fuel cs x ht h=>by
      obtain⟨n,rfl,rfl⟩:=DataW.trod_bool ht.1 h
      exact⟨n,rfl,trivial,by simp[vol,bulk]⟩,λfs off fuel cs xs h=>h.elim⟩
  | .str,_=>⟨λt fuel cs x ht h=>by
      obtain⟨s,rfl,rfl,hs⟩:=DataW.trod_string ht.1 h
      exact⟨s,rfl,hs,by simp[vol,bulk]⟩,λfs off fuel cs xs h=>h.elim⟩
  | .slice e, hp=>⟨λt fuel cs x ht h=>by
      unfold Ty.plain at hp
      rw[Bool.and_eq_true,decide_eq_true_eq]at hp
      obtain⟨⟨u,hu,he⟩,_⟩:=ht
      rcases DataW.trod_slice hu h with ⟨rfl,rfl⟩ | ⟨a,len,cap,elems,rest,n,_,rfl,rfl,_,hlc,hcap,hlen,hel,_,_⟩
      · exact⟨[],⟨none,0,rfl,by simp,.inl rfl⟩,⟨by simp,by simp⟩,by simp[vol,bulk]⟩
      · have ih := (rd_of_trod e hp.1).1
        have hsz:=cellsOf_eq he
        obtain⟨l,cells,h1,h2,h3,h4,h5,h6⟩:=gather (w:=w) (e:=e) (S:=λb=>b<w.heap.size) (R:=λi c=>∀ j,j<e.sz→w.cell? (a.add (i*e.sz+j))=c[j]?) (xs:=elems) len (by omega) (λi hi=>by
          have:=hel i hi
          rw[List.getElem?_eq_getElem (by omega)]at this
          obtain⟨c,hc1,hc2⟩:=Option.bind_eq_some_iff.1 this
          obtain⟨_,g2,g3⟩:=World.cells?_some hc1
          obtain⟨d,g4,g5,g6⟩:=ih u n c _ he hc2
          refine⟨c,d,λj hj => ?_,by rw[g2,hsz],g4,g5,?_⟩
          · have:=g3 j (by omega)
            rw[hsz,Deep.add_add]at this;exact this
          · rw[List.getD_eq_getElem?_getD,List.getElem?_eq_getElem (by omega)];exact g6)
        refine⟨l,⟨some a,cap,by rw[h1],by omega,?_⟩,⟨by omega,h5⟩,?_⟩
        · by_cases hl0:len=0
          · left;exact List.eq_nil_of_length_eq_zero (by omega)
          · right
            have hcell:∀ j (hj:j<cells.length),w.cell? (a.add j)=some cells[j]:=by
              intro j hj
              have hpos:0<e.sz:=by omega
              have hdm:=Nat.div_add_mod j e.sz
              have hi:j/e.sz<len:=by
                rw[h4]at hj
                exact Nat.div_lt_of_lt_mul (by rw[Nat.mul_comm];exact hj)
              obtain⟨c,g1,g2⟩:=h3 (j/e.sz) hi
              have hm:=Nat.mod_lt j hpos
              have:=g1 (j%e.sz) hm
              rw[Nat.mul_comm,hdm,g2,List.getElem?_take_of_lt hm,List.getElem?_drop,Nat.mul_comm,hdm,List.getElem?_eq_getElem hj]at this
              exact this
            have hsp:a.spot=none:=by
              have h0:=hcell 0 (by rw[h4];exact Nat.mul_pos (by omega) (by omega))
              unfold World.cell? at h0
              split at h0
              · split at h0
                · exact absurd h0 (by simp)
                · rename_i hs
                  have:(a.add 0).spot=a.spot:=by unfold Addr.add;simp
                  rw[this]at hs
                  simpa using hs
              · exact absurd h0 (by simp)
            have hblk:a.block<w.heap.size:=by
              have h0:=cell?_lt (hcell 0 (by rw[h4];exact Nat.mul_pos (by omega) (by omega)))
              have:(a.add 0).block=a.block:=by unfold Addr.add;simp
              rwa [this]at h0
            exact⟨a,rfl,hblk,cells,h2,hsp,λj hj=>by rw[← Addr.add_eq hsp];exact hcell j hj⟩
        · simp only[vol,bulk]
          rw[List.take_of_length_le (by omega)]at h6
          omega,λfs off fuel cs xs h=>h.elim⟩
  | .arr n e,hp=>⟨λt fuel cs x ht h=>by
      unfold Ty.plain at hp
      obtain⟨⟨u,hu,he⟩,hi⟩:=ht
      obtain⟨xs,m,_,rfl,hl,hxl,hx⟩:=DataW.trod_array hu h
      have ih:=(rd_of_trod e hp).1
      have hsz:=cellsOf_eq he
      have hszt:P.cellsOf t=(Ty.arr n e).sz:=cellsOf_eq (T := .arr n e) ⟨⟨u,hu,he⟩,hi⟩
      simp only[Ty.sz]at hszt
      obtain⟨l,cells,h1,h2,h3,h4,h5,h6⟩:=gather (w:=w) (e:=e) (S:=λb=>b<w.heap.size) (R:=λi c=>c=(cs.drop (i*e.sz)).take e.sz) (xs:=xs) n (by omega) (λi hi=>by
          have:=hx i hi
          rw[List.getElem?_eq_getElem (by omega),hsz]at this
          obtain⟨d,g4,g5,g6⟩:=ih u m _ _ he this
          refine⟨_,d,rfl,Rd.length _ _ _ _ _ g4,g4,g5,?_⟩
          rw[List.getD_eq_getElem?_getD,List.getElem?_eq_getElem (by omega)];exact g6)
      have hcs:cells=cs:=by
        apply List.ext_getElem?
        intro j
        by_cases hj:j<n*e.sz
        · have hpos:0<e.sz:=by
            rcases Nat.eq_zero_or_pos e.sz with h0 | h0
            · rw[h0]at hj;omega
            · exact h0
          have hdm:=Nat.div_add_mod j e.sz
          have hi:j/e.sz<n:=Nat.div_lt_of_lt_mul (by rw[Nat.mul_comm];exact hj)
          obtain⟨c,g1,g2⟩:=h3 (j/e.sz) hi
          have hm:=Nat.mod_lt j hpos
          have e1:c[j%e.sz]?=cs[j]?:=by
            rw[g1,List.getElem?_take_of_lt hm,List.getElem?_drop,Nat.mul_comm,hdm]
          have e2:c[j%e.sz]?=cells[j]?:=by
            rw[g2,List.getElem?_take_of_lt hm,List.getElem?_drop,Nat.mul_comm,hdm]
          rw[← e2,e1]
        · rw[List.getElem?_eq_none (by omega),List.getElem?_eq_none (by rw[hl,hszt];omega)]
      rw[hcs]at h2
      refine⟨l,⟨h1,h2⟩,⟨h1,h5⟩,?_⟩
      simp only[vol,bulk]
      rw[List.take_of_length_le (by omega)]at h6
      omega,λfs off fuel cs xs h=>h.elim⟩
  | .pair a b,hp=>by
    unfold Ty.plain at hp
    rw[Bool.and_eq_true]at hp
    have key:∀ (fs:List Field) (off fuel:Nat) (cs:List Value) (xs:List (DataW H×List MemPlace)),(TF P (.pair a b)).2 fs off→cs.length=off+(Ty.pair a b).sz→xs.length=fs.length →
      (∀ (i:Nat) (f:Field),fs[i]?=some f→DataW.trod enc P w 0 (λ_=>true) true fuel f.type ((cs.drop f.offset).take (P.cellsOf f.type))=xs[i]?) →
      ∃ d,Rd (λb=>b<w.heap.size) w (.pair a b) d (cs.drop off)∧Wf (.pair a b) d∧vol (.pair a b) d≤bulkL (xs.map (·.1)):=by
      intro fs off fuel cs xs hF hl hxl hx
      match fs,xs,hF,hxl,hx with
      | [],_,hF,_,_=>exact hF.elim
      | _::_,[],_,hxl,_=>simp at hxl
      | f :: r,x0::xs,⟨ho,_,h1,h2⟩,hxl,hx=>
        have hsz:=cellsOf_eq h1
        have hx0:=hx 0 f rfl
        rw[hsz,ho]at hx0
        simp only[Ty.sz]at hl
        obtain⟨d1,k1,k2,k3⟩:=(rd_of_trod a hp.1).1 f.type fuel _ _ h1 hx0
        obtain⟨d2,k4,k5,k6⟩:=(rd_of_trod b hp.2).2 r (off+a.sz) fuel cs xs h2 (by omega) (by simpa using hxl) (λi f' hf'=>by
          have:=hx (i+1) f' (by simpa using hf')
          simpa using this)
        refine⟨(d1,d2),⟨(cs.drop off).take a.sz,cs.drop (off+a.sz),?_,k1,k4⟩,⟨k2,k5⟩,?_⟩
        · rw[← List.drop_drop,List.take_append_drop]
        · simp only[vol,List.map_cons,bulkL];omega
    refine⟨λt fuel cs x ht h => ?_,key⟩
    obtain⟨⟨fs,hfs,hF,_⟩,hi⟩:=ht
    obtain⟨xs,n,_,rfl,hl,hxl,hx⟩:=DataW.trod_struct hfs h
    have hszt:P.cellsOf t=(Ty.pair a b).sz:=by
      obtain⟨i,g1,g2,_⟩:=hi
      unfold Program.cellsOf;rw[g1];simpa using g2
    obtain⟨d,k1,k2,k3⟩:=key fs.toList 0 n cs xs hF (by rw[hl,hszt];omega) (by simpa using hxl) (λi f hf=>hx i f (by rw[← Array.getElem?_toList];exact hf))
    exact⟨d,by simpa using k1,k2,by simp only[bulk];omega⟩
  | .unit,hp=>by
    have key:∀ (fs:List Field) (off fuel:Nat) (cs:List Value) (xs:List (DataW H×List MemPlace)),(TF P .unit).2 fs off→cs.length=off+(Ty.unit).sz→xs.length=fs.length →
      (∀ (i:Nat) (f:Field),fs[i]?=some f→DataW.trod enc P w 0 (λ_=>true) true fuel f.type ((cs.drop f.offset).take (P.cellsOf f.type))=xs[i]?) →
      ∃ d,Rd (λb=>b<w.heap.size) w .unit d (cs.drop off)∧Wf .unit d∧vol .unit d≤bulkL (xs.map (·.1)):=by
      intro fs off fuel cs xs hF hl hxl hx
      refine⟨(),?_,trivial,Nat.zero_le _⟩
      change cs.drop off=[]
      exact List.drop_eq_nil_of_le (by simp only[Ty.sz]at hl;omega)
    refine⟨λt fuel cs x ht h => ?_,key⟩
    obtain⟨⟨fs,hfs,hF,_⟩,hi⟩:=ht
    obtain⟨xs,n,_,rfl,hl,hxl,hx⟩:=DataW.trod_struct hfs h
    have hszt:P.cellsOf t=(Ty.unit).sz:=by
      obtain⟨i,g1,g2,_⟩:=hi
      unfold Program.cellsOf;rw[g1];simpa using g2
    obtain⟨d,k1,k2,k3⟩:=key fs.toList 0 n cs xs hF (by rw[hl,hszt];omega) (by simpa using hxl) (λi f hf=>hx i f (by rw[← Array.getElem?_toList];exact hf))
    exact⟨d,by simpa using k1,k2,by simp only[bulk];omega⟩
  | .opq _,hp=>by simp[Ty.plain]at hp
  | .smap,hp=>by simp[Ty.plain]at hp
  | .mapT _ _,hp=>by simp[Ty.plain]at hp
def WfD:(j:Nat)→(Ts:List Ty)→Dens (inSig j (Ts.map .dat))→Prop
  | _,[],_=>True
  | j,T::Ts,v=>Wf T v.1∧WfD (j+1) Ts v.2
def volD:(j:Nat)→(Ts:List Ty)→Dens (inSig j (Ts.map .dat))→Nat
  | _,[],_=>0
  | j,T::Ts,v=>vol T v.1+volD (j+1) Ts v.2
theorem V_of_rd [Gl]{E:Env}{T:Ty}{t:TypeId}{v:Value}{d:Den T}{b:Nat}(hp:T.plain=true)(ht:TyIs P T t)(hv:Value.okWide P w .any b t v)(h:Rd E.S w T d v.cells.toList):V E w (.data T d) v:=by
  have one:∀ {x:Value},v.cells = #[x]→v=x→Rd E.S w T d [v]:=by
    intro x h1 h2;subst h2;rw[h1]at h;exact h
  cases T with
  | int k=>rw[V_one rfl];obtain⟨n,rfl⟩:=okWide_int ht.1 hv;exact h
  | bool=>rw[V_one rfl];obtain⟨n,rfl⟩:=okWide_bool ht.1 hv;exact h
  | str=>rw[V_one rfl];obtain⟨n,rfl⟩:=okWide_string ht.1 hv;exact h
  | slice e=>rw[V_one rfl];obtain⟨⟨u,hu,_⟩,_⟩:=ht;obtain⟨a,l,c,rfl⟩:=okWide_slice hu hv;exact h
  | arr n e=>
    rw[V_agg rfl]
    obtain⟨⟨u,hu,_⟩,_⟩:=ht
    simp only[Value.okWide,hu]at hv
    obtain⟨cs,rfl,_⟩:=hv
    exact⟨cs,rfl,h⟩
  | pair a b=>
    rw[V_agg rfl]
    obtain⟨⟨fs,hfs,_⟩,_⟩:=ht
    obtain⟨cs,rfl,_⟩:=okWide_struct hfs hv
    exact⟨cs,rfl,h⟩
  | unit=>
    rw[V_agg rfl]
    obtain⟨⟨fs,hfs,_⟩,_⟩:=ht
    obtain⟨cs,rfl,_⟩:=okWide_struct hfs hv
    exact⟨cs,rfl,h⟩
  | opq k=>simp[Ty.plain]at hp
  | smap=>simp[Ty.plain]at hp
  | mapT _ _=>simp[Ty.plain]at hp
def TysAre (P:Program):List Ty→List TypeId→Prop
  | [],[]=>True
  | T::Ts,t::ts=>TyIs P T t∧TysAre P Ts ts
  | _,_=>False
theorem args_of_trod [Gl]{E:Env}{b:Nat}(hS:E.S=λb=>b<w.heap.size):∀ (Ts:List Ty) (ts:List TypeId) (j:Nat) (vals:List Value) (ds:List (DataW H)) (p:List MemPlace),(Ts.all Ty.plain)=true→TysAre P Ts ts→DataW.TrodAll enc P w 0 (λ_=>true) true ts vals ds p →
    (∀ (i:Nat) (t:TypeId) (v:Value),ts[i]?=some t→vals[i]?=some v→Value.okWide P w .any b t v) →
    ∃ v,C E w (ycn (ydp j (Ts.map .dat) v)) vals∧WfD j Ts v∧volD j Ts v≤bulkL ds
  | [],[],j,vals,ds,p,_,_,hA,_=>by
    obtain⟨rfl,rfl,rfl⟩:=trodAll_nil hA
    exact⟨(),rfl,trivial,Nat.le_refl _⟩
  | [],_::_,j,vals,ds,p,_,h,hA,_=>h.elim
  | _::_,[],j,vals,ds,p,_,h,hA,_=>h.elim
  | T::Ts,t::ts,j,vals,ds,p,hp,⟨h1,h2⟩,hA,hval=>by
    simp only[List.all_cons,Bool.and_eq_true]at hp
    obtain⟨v,vs,d,ds',p1,q,rfl,rfl,rfl,⟨n,hd⟩,hr⟩:=trodAll_cons hA
    obtain⟨x,k1,k2,k3⟩:=(rd_of_trod T hp.1).1 t n _ _ h1 hd
    obtain⟨y,m1,m2,m3⟩:=args_of_trod hS Ts ts (j+1) vs ds' q hp.2 h2 hr (λi t' v' hi hv=>hval (i+1) t' v' (by simpa using hi) (by simpa using hv))
    refine⟨(x,y),⟨v,vs,rfl,V_of_rd hp.1 h1 (hval 0 t v rfl rfl) (by rw[hS];exact k1),m1⟩,⟨k2,m2⟩,?_⟩
    simp only[volD,bulkL];simp only at k3;omega
theorem heap_dats:∀ (Ts:List Ty) (j:Nat) (v:Dens (inSig j (Ts.map .dat))),ybT (inSig j (Ts.map .dat)) v=[]
  | [],_,_=>rfl
  | T::Ts,j,v=>heap_dats Ts (j+1) v.2
structure Same (W W':World):Prop where
  os:W'.os=W.os
  output:W'.output=W.output
  size:W.heap.size≤W'.heap.size
  block:∀ b,b<W.heap.size→W'.heap[b]?=W.heap[b]?
theorem law_calls [Gl]{fid:Nat}{Ts:List Ty}{ts:List TypeId}{t0:Nat}{f:Nat→DIn (Ts.map .dat)→Option (DOut (Ts.map .dat) [(t0,.dat .bool)])}(hf:∀ n,FnOk P fid (Ts.map .dat) [(t0,.dat .bool)] (f n))(hp:(Ts.all Ty.plain)=true)(hts:TysAre P Ts ts)
    {args:Array Value} {ds:List (DataW H)} {p:List MemPlace} {b:Nat} (hA:DataW.TrodAll enc P w 0 (λ_=>true) true ts args.toList ds p)
    (hval:∀ (i:Nat) (t:TypeId) (v:Value),ts[i]?=some t→args[i]?=some v→Value.okWide P w .any b t v)
    (hgl:(∀ p∈Gl.tab,p.1<w.heap.size∧∃ cs,p.2 cs∧At w ⟨p.1,0,none⟩ cs)∧∀ p∈Gl.ex,∃ o,w.heap[p.1]?=some o∧p.2 o)
    (hF:∀ v,WfD 0 Ts v→volD 0 Ts v≤bulkL ds→∃ n y,f n v=some (true,y)) :
    Calls P fid args w λe W'=>e = .returned (.bool true)∧Same w W':=by
  let E:Env:=⟨λ_=>none,λ_=>none,λ_=>False,λb=>b<w.heap.size⟩
  obtain⟨v,k1,k2,k3⟩:=args_of_trod (E:=E) rfl Ts ts 0 args.toList ds p hp hts hA (λi t v hi hv=>hval i t v hi (by simpa using hv))
  obtain⟨n,y,hy⟩:=hF v k2 k3
  have hh:HREL (λb=>b<w.heap.size) (λb=>b<w.heap.size) E (ydh (inSig 0 (Ts.map .dat)) v) w:=by
    have e:ydh (inSig 0 (Ts.map .dat)) v=λ_ => .un:=by unfold ydh;rw[heap_dats];rfl
    rw[e]
    exact⟨λr=>⟨id,rfl⟩,λr r' b h=>by simp[Ent.isLive]at h,λr b h=>by simp[Ent.isLive]at h,λb h=>h,λb h=>h,λb h => .inl h,hgl.1,λp hp=>by
      obtain⟨o,h1,h2⟩:=hgl.2 p hp
      refine⟨?_,o,h1,h2⟩
      rcases Nat.lt_or_ge p.1 w.heap.size with hl | hl
      · exact hl
      · rw[Array.getElem?_eq_none hl]at h1;exact absurd h1 (by simp)⟩
  have:=(hf n).run v _ hy _ _ E w args.toList hh k1
  rw[Array.toArray_toList]at this
  refine this.mono ?_
  rintro e W' ⟨E',x,rfl,g1,g2,g3⟩
  refine⟨?_,g2.keepP.os,g2.keepP.output,g2.keepP.size,λb hb=>g2.keepP.block b hb hb⟩
  have:x = .bool true:=ycY.1 g3
  rw[this]
theorem Same.keptBut {W W':World}(h:Same W W')(may:MemPlace→Prop):W.keptBut W' may:=by
  refine⟨h.os,h.output,λi hi => ?_⟩
  rw[h.block i hi]
  cases W.heap[i]? with
  | none=>rfl
  | some o=>cases o with
    | cells c t fr=>exact⟨rfl,rfl,rfl,λ_ _=>rfl⟩
    | map es clock=>exact .inr ⟨rfl,rfl⟩
    | _=>rfl
theorem Same.frozen {W W':World}(h:Same W W'){a:Addr}(ha:a.block<W.heap.size):W'.frozen? a=W.frozen? a:=by
  unfold World.frozen?; rw[h.block _ ha]
theorem Same.at {W W':World}(h:Same W W'){p:MemPlace}(hp:p.block<W.heap.size):W.sameAt W' p:=by
  cases p with
  | cell b off=>simp only[World.sameAt,World.cell?];rw[h.block b hp]
  | map b=>exact h.block b hp
theorem Same.trodAll {W W':World}(h:Same W W')(K:Kids P (· < P.types.size))(hz:∀ t e,t<P.types.size→P.underlying t=some (.slice e)→0<P.cellsOf e){spare':Nat→Bool} :
    ∀ {ts:List TypeId} {vs:List Value} {ds:List (DataW H)} {ps:List MemPlace},(∀ t∈ts,t<P.types.size)→DataW.TrodAll enc P W 0 (λ_=>true) true ts vs ds ps→(∀ p∈ps,spare' p.block=true)→(∀ p∈ps,p.block<W.heap.size) →
      DataW.TrodAll enc P W' 0 spare' true ts vs ds ps:=by
  intro ts vs ds ps hts hA hs hl
  refine DataW.TrodAll.respare K hz hts ?_ hs
  have:∀ {ts:List TypeId} {vs:List Value} {ds:List (DataW H)} {ps:List MemPlace},DataW.TrodAll enc P W 0 (λ_=>true) true ts vs ds ps→(∀ p∈ps,p.block<W.heap.size)→DataW.TrodAll enc P W' 0 (λ_=>true) true ts vs ds ps:=by
    intro ts
    induction ts with
    | nil=>intro vs ds ps h1 _;obtain⟨rfl,rfl,rfl⟩:=trodAll_nil h1;exact rfl
    | cons t ts ih=>
      intro vs ds ps h1 h2
      obtain⟨v,vs,d,ds',p1,q,rfl,rfl,rfl,⟨n,hd⟩,hr⟩:=trodAll_cons h1
      exact⟨p1,q,⟨n,DataW.trod_carry n _ _ _ hd (λp hp=>h.at (h2 p (by simp[hp])))⟩,ih hr (λp hp=>h2 p (by simp[hp])),rfl⟩
  exact this hA hl
theorem law_post {f:Func}{s:ChangeSpec}{apart fresh handsOn again:Bool}{W W':World}{args:Array Value}{ds gs:List (DataW H)}{before:List MemPlace}{t0:TypeId}
    (h:Same W W') (K:Kids P (· < P.types.size)) (hz:∀ t e,t<P.types.size→P.underlying t=some (.slice e)→0<P.cellsOf e) (hts:∀ t∈f.params.toList,t<P.types.size)
    (hW:DataW.Whole enc P f.params.toList s.vars apart W args.toList ds gs before) (hvars:s.vars=[]) (hr:f.resultTypes = #[t0]) (ht0:P.underlying t0=some .bool)
    (hs:(s.fn H ds).results=[.lit (.bool true)]∧(s.fn H ds).args=ds∧(s.fn H ds).vars=[]):s.post enc P f apart fresh handsOn again W args (.bool true) W':=by
  have hW0:=hW
  obtain⟨pa,pv,hA,hV,rfl,hz0,hn⟩:=hW
  rw[hvars]at hV
  obtain⟨rfl,rfl⟩:=trodVars_none hV
  have hlt:=hW0.lt
  have hold:∀ p∈pa++[],(λb=>decide (b<W.heap.size)) p.block=true:=λp hp=>by simpa using hlt p hp
  rw[List.append_nil]at hold hlt hW0 hz0 hn
  have hres:∀ (b:Nat) (sp:Nat→Bool) (hd:Bool),DataW.TrodAll enc P W' b sp hd f.resultTypes.toList ((Value.bool true).resultList f.resultTypes.size) (s.fn H (ds++[])).results []:=by
    intro b sp hd
    rw[List.append_nil,hs.1,hr]
    exact⟨[],[],⟨1,by simp[DataW.trod,Value.cells,ht0]⟩,rfl,rfl⟩
  have hargs:∀ sp:Nat→Bool,(∀ p∈pa,sp p.block=true)→DataW.TrodAll enc P W' 0 sp true f.params.toList args.toList (s.fn H (ds++[])).args pa:=by
    intro sp hsp
    rw[List.append_nil,hs.2.1]
    exact h.trodAll K hz hts hA hsp hlt
  have hvs:∀ sp:Nat→Bool,DataW.TrodVars enc P W' sp s.vars (s.fn H (ds++[])).vars []:=by
    intro sp
    rw[List.append_nil,hs.2.2,hvars];rfl
  refine⟨ds,[],pa,[],pa,[],hW0,hres _ _ _,hargs _ hold,hvs _,h.keptBut _,λ_ => ?_⟩
  refine⟨?_,_,_,([]++pa)++[],⟨[]++pa,[],trodAll_append (hargs _ (λ_ _=>rfl)) (hres _ _ _),hvs _,rfl,?_,?_⟩,?_⟩
  · intro j t r h1 h2
    rw[hr]at h1 h2
    match j,h1,h2 with
    | 0,h1,h2=>
      simp at h1;subst h1
      simp[Value.resultList]at h2;subst h2
      simp[Value.okWide,ht0,Cell.okWide,Cell.ok]
    | j+1,h1,_=>simp at h1
  · intro b off hp
    have hp':MemPlace.cell b off∈pa:=by simpa using hp
    have:=hz0 b off hp'
    rw[← this]
    exact h.frozen (hlt _ hp')
  · intro ha
    have:=hn ha
    simpa using this
  · intro p hp _
    simpa using hp
end
end Go.Va
