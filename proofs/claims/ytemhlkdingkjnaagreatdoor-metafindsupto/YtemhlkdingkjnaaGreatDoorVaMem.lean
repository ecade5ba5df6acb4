/-
  Va, part 3: what the program's table of types says of a code, and the runs of the model's loads and stores.
-/
import Derived.Test.YtemhlkdingkjnaaGreatDoorVaState
import Derived.Laws.Cells
set_option linter.unusedVariables false
set_option linter.unusedSimpArgs false
namespace Go.Va
open Go
def zc:Ty→List Value
  | .int k=>[.int k 0]
  | .bool=>[.bool false]
  | .str=>[.string ⟨#[]⟩]
  | .slice _=>[.slice none 0 0]
  | .arr n e=>(List.replicate n (zc e)).flatten
  | .pair a b=>zc a++zc b
  | .unit=>[]
  | .opq k=>[nilOf k]
  | .smap=>[.map none]
  | .mapT _ _=>[.map none]
def InfoIs (P:Program)(T:Ty)(t:TypeId):Prop:=
  ∃ i,P.info? t=some i∧i.size=T.sz∧∃ z,i.zero=some z∧z.cells.toList=zc T∧(T.agg=true→∃ cs,z = .agg cs)
def TF (P:Program):Ty→(TypeId→Prop)×(List Field→Nat→Prop)
  | .int k=>(λt=>P.underlying t=some (.int k)∧InfoIs P (.int k) t,λ_ _=>False)
  | .bool=>(λt=>P.underlying t=some .bool∧InfoIs P .bool t,λ_ _=>False)
  | .str=>(λt=>P.underlying t=some .string∧InfoIs P .str t,λ_ _=>False)
  | .slice e=>(λt=>(∃ u,P.underlying t=some (.slice u)∧(TF P e).1 u)∧InfoIs P (.slice e) t,λ_ _=>False)
  | .arr n e=>(λt=>(∃ u,P.underlying t=some (.array n u)∧(TF P e).1 u)∧InfoIs P (.arr n e) t,λ_ _=>False)
  | .pair a b=>
    let F:List Field→Nat→Prop:=λfs off=>match fs with
      | f :: r => f.offset = off ∧ f.name ≠ "_" ∧ (TF P a).1 f.type ∧ (TF P b).2 r (off + a.sz)
      | []=>False
    (λt=>(∃ fs,P.underlying t=some (.struct fs)∧F fs.toList 0∧P.stoodInHeld t=false)∧InfoIs P (.pair a b) t,F)
  | .unit=>
    let F:List Field→Nat→Prop:=λfs _=>fs=[]
    (λt=>(∃ fs,P.underlying t=some (.struct fs)∧F fs.toList 0∧P.stoodInHeld t=false)∧InfoIs P .unit t,F)
  | .opq k=>(λt=>(match P.underlying t with
      | some (.pointer _)=>k=0
      | some (.func _ _ _)=>k=1
      | some (.map _ _)=>k=2
      | some (.interface _)=>k=3
      | _=>False)∧InfoIs P (.opq k) t,λ_ _=>False)
  | .smap=>(λt=>(∃ k v,P.underlying t=some (.map k v)∧P.underlying k=some .string∧∃ i,P.info? v=some i∧i.zero=some (.int .i64 0))∧InfoIs P .smap t,λ_ _=>False)
  | .mapT K V=>(λt=>(∃ k v,P.underlying t=some (.map k v)∧(TF P K).1 k∧(TF P V).1 v∧(V.agg=false→∃ i,P.info? v=some i∧∃ z,i.zero=some z∧zc V=[z]))∧InfoIs P (.mapT K V) t,λ_ _=>False)
abbrev TyIs (P:Program)(T:Ty)(t:TypeId):Prop:=(TF P T).1 t
theorem TyIs.info {P:Program}{t:TypeId}:∀ {T:Ty},TyIs P T t→InfoIs P T t
  | .int _,h=>h.2
  | .bool,h=>h.2
  | .str,h=>h.2
  | .slice _,h=>h.2
  | .arr _ _,h=>h.2
  | .pair _ _,h=>h.2
  | .unit,h=>h.2
  | .opq _,h=>h.2
  | .smap,h=>h.2
  | .mapT _ _,h=>h.2
section
variable {P:Program}
theorem run_underlying {t:TypeId}{d:TypeDesc}{w:World}(h:P.underlying t=some d):(underlying t).run P w = .ok d w:=by
  simp[underlying,h]
theorem run_typeInfo {t:TypeId}{d:TypeInfo}{w:World}(h:P.info? t=some d):(typeInfo t).run P w = .ok d w:=by
  simp[typeInfo,h]
theorem run_sizeOf {T:Ty}{t:TypeId}{w:World}(h:TyIs P T t):(sizeOf t).run P w = .ok T.sz w:=by
  obtain⟨i,h1,h2,_⟩:=h.info
  simp[sizeOf,run_typeInfo h1,h2]
theorem run_zero {T:Ty}{t:TypeId}{w:World}(h:TyIs P T t):∃ z,(zeroValue t).run P w = .ok z w∧z.cells.toList=zc T∧(T.agg=true→∃ cs,z = .agg cs):=by
  obtain⟨i,h1,h2,z,h3,h4,h5⟩:=h.info
  exact⟨z,by simp[zeroValue,run_typeInfo h1,h3],h4,h5⟩
theorem run_isAgg {t:TypeId}{w:World}:∀ {T:Ty},TyIs P T t→(isAgg t).run P w = .ok T.agg w
  | .int _,h=>by simp[isAgg,run_underlying h.1,Ty.agg]
  | .bool,h=>by simp[isAgg,run_underlying h.1,Ty.agg]
  | .str,h=>by simp[isAgg,run_underlying h.1,Ty.agg]
  | .slice _,h=>by obtain⟨⟨u,hu,_⟩,_⟩:=h;simp[isAgg,run_underlying hu,Ty.agg]
  | .arr _ _,h=>by obtain⟨⟨u,hu,_⟩,_⟩:=h;simp[isAgg,run_underlying hu,Ty.agg]
  | .pair _ _,h=>by obtain⟨⟨u,hu,_⟩,_⟩:=h;simp[isAgg,run_underlying hu,Ty.agg]
  | .unit,h=>by obtain⟨⟨u,hu,_⟩,_⟩:=h;simp[isAgg,run_underlying hu,Ty.agg]
  | .opq k,h=>by
    have h1:=h.1
    cases hu:P.underlying t with
    | none=>rw[hu]at h1;exact h1.elim
    | some d=>rw[hu]at h1;cases d<;>simp_all [isAgg,run_underlying hu,Ty.agg]
  | .smap,h=>by obtain⟨⟨k,v,hu,_⟩,_⟩:=h;simp[isAgg,run_underlying hu,Ty.agg]
  | .mapT _ _,h=>by obtain⟨⟨k,v,hu,_⟩,_⟩:=h;simp[isAgg,run_underlying hu,Ty.agg]
theorem Ty.sz_one {T:Ty}(h:T.agg=false):T.sz=1:=by cases T<;>simp_all [Ty.agg,Ty.sz]
def ybl (T:Ty)(cs:List Value):Value:=if T.agg then .agg cs.toArray else cs.headD undef
theorem run_loadVar {T:Ty}{t:TypeId}{a:Addr}{cs:List Value}{w:World}(h:TyIs P T t)(hl:cs.length=T.sz)(hc:At w a cs) :
    (loadVar t a).run P w = .ok (ybl T cs) w:=by
  unfold loadVar ybl
  rw[Sem.run_bind,run_isAgg h,Result.andThen_ok]
  cases ha:T.agg with
  | true=>
    simp only[if_true]
    rw[Sem.run_bind,run_sizeOf h,Result.andThen_ok,Sem.run_bind,← hl,run_loadCells_list]
    · rfl
    · intro j v hj
      rw[Addr.add_eq hc.1]
      obtain⟨hj1,hj2⟩:=List.getElem?_eq_some_iff.1 hj
      rw[hc.2 j hj1,hj2]
  | false=>
    have h1:=Ty.sz_one ha
    rw[h1]at hl
    match cs,hl with
    | [v],_=>
      have:=hc.2 0 (by simp)
      simp only[Nat.add_zero,List.getElem_cons_zero]at this
      have e:(⟨a.block,a.off,none⟩:Addr)=a:=by cases a;simp_all [At]
      rw[e]at this
      simp[this]
end
structure Wr (w w':World)(b:Nat):Prop where
  os:w'.os=w.os
  tape:w'.tape=w.tape
  output:w'.output=w.output
  drawn:w'.drawn=w.drawn
  size:w'.heap.size=w.heap.size
  block:∀ k,k≠b→w'.heap[k]?=w.heap[k]?
theorem Wr.refl (w:World)(b:Nat):Wr w w b:=⟨rfl,rfl,rfl,rfl,rfl,λ_ _=>rfl⟩
theorem Wr.trans {a b c:World}{n:Nat}(h:Wr a b n)(k:Wr b c n):Wr a c n:=
  ⟨k.os.trans h.os,k.tape.trans h.tape,k.output.trans h.output,k.drawn.trans h.drawn,k.size.trans h.size,λi hi=>(k.block i hi).trans (h.block i hi)⟩
theorem Wr.keep {w w':World}{b:Nat}(h:Wr w w' b){S:Nat→Prop}(hs:¬ S b):Keep S w w':=
  ⟨h.os,h.tape,h.output,Nat.le_of_eq h.size.symm,λk hk _=>h.block k (λe=>hs (e ▸ hk))⟩
theorem run_storeCells {P:Program}:∀ (vs:List Value) (i:Nat) (w:World) (b off:Nat) (cs:List Value) (t:TypeId) (fr:Nat×Nat),
    w.heap[b]?=some (.cells cs.toArray t fr)→NoFr cs.length fr→off+i+vs.length≤cs.length→(∀ v∈vs,v.oneCell'=true) →
    ∃ w',(storeCells ⟨b,off,none⟩ vs i).run P w = .ok () w'∧Wr w w' b ∧
      w'.heap[b]?=some (.cells (cs.take (off+i)++vs++cs.drop (off+i+vs.length)).toArray t fr)
  | [],i,w,b,off,cs,t,fr,h,_,_,_=>⟨w,rfl,.refl w b,by simpa using h⟩
  | v :: vs,i,w,b,off,cs,t,fr,h,hf,hl,h1=>by
    have hv:=h1 v (by simp)
    simp only[List.length_cons]at hl
    have hlt:off+i<cs.length:=by omega
    have hc:w.cell? ⟨b,off+i,none⟩=some cs[off+i]:=by
      simp[World.cell?,h,hlt]
    have hz:w.frozen? ⟨b,off+i,none⟩=false:=by
      have:=hf.not (off+i) hlt
      simp only[World.frozen?,h]
      simpa using this
    have hb:b<w.heap.size:=by
      rcases Nat.lt_or_ge b w.heap.size with hh | hh
      · exact hh
      · rw[Array.getElem?_eq_none hh]at h;exact absurd h (by simp)
    let w1:=w.setCell ⟨b,off+i,none⟩ v
    have hw1:Wr w w1 b:=⟨rfl,rfl,rfl,rfl,by simp[w1,World.setCell],λk hk=>by
      simp only[w1,World.setCell,Array.getElem?_modify];rw[if_neg (by omega)]⟩
    have hb1:w1.heap[b]?=some (.cells (cs.set (off+i) v).toArray t fr):=by
      simp only[w1,World.setCell,Array.getElem?_modify]
      rw[h]
      simp
    obtain⟨w',g1,g2,g3⟩:=run_storeCells (P:=P) vs (i+1) w1 b off (cs.set (off+i) v) t fr hb1 (by simpa using hf) (by simp;omega) (λx hx=>h1 x (by simp[hx]))
    refine⟨w',?_,hw1.trans g2,?_⟩
    · unfold storeCells
      rw[Sem.run_bind,Addr.add_eq rfl,run_store _ _ _ _ _ hv,hc]
      simp only[hz,Bool.false_eq_true,if_false,Result.andThen_ok]
      exact g1
    · rw[g3]
      congr 3
      have e1:(cs.set (off+i) v).take (off+(i+1))=cs.take (off+i)++[v]:=by
        rw[List.set_eq_take_append_cons_drop,if_pos hlt,show off+(i+1)=(cs.take (off+i)).length+1 by simp;omega,List.take_length_add_append]
        rfl
      have e2:(cs.set (off+i) v).drop (off+(i+1)+vs.length)=cs.drop (off+i+(v::vs).length):=by
        rw[List.drop_set_of_lt (by omega)]
        congr 1
        simp;omega
      rw[e1,e2]
      simp
theorem nilOf_one (k:Nat):(nilOf k).oneCell'=true:=by
  match k with
  | 0=>rfl
  | 1=>rfl
  | 2=>rfl
  | k+3=>rfl
theorem Rd.one (S:Nat→Prop)(w:World):∀ (T:Ty) (x:Den T) (cs:List Value),Rd S w T x cs→∀ v∈cs,v.oneCell'=true
  | .int _,_,_,h=>by simp only[Rd]at h;subst h;simp[Value.oneCell']
  | .bool,_,_,h=>by simp only[Rd]at h;subst h;simp[Value.oneCell']
  | .str,_,_,h=>by simp only[Rd]at h;subst h;simp[Value.oneCell']
  | .slice _,_,_,h=>by obtain⟨a,cap,rfl,_⟩:=h;simp[Value.oneCell']
  | .arr n e,l,cs,h=>by
    obtain⟨h0,h2⟩:=h
    clear h0
    induction l generalizing cs with
    | nil=>simp only[RdL]at h2;subst h2;simp
    | cons x l ih=>
      obtain⟨c1,c2,rfl,k1,k2⟩:=h2
      intro v hv
      rcases List.mem_append.1 hv with hv | hv
      · exact Rd.one S w e _ _ k1 v hv
      · exact ih _ k2 v hv
  | .pair a b,x,cs,h=>by
    obtain⟨c1,c2,rfl,h1,h2⟩:=h
    intro v hv
    rcases List.mem_append.1 hv with hv | hv
    · exact Rd.one S w a _ _ h1 v hv
    · exact Rd.one S w b _ _ h2 v hv
  | .unit,_,_,h=>by simp only[Rd]at h;subst h;simp
  | .opq k,_,_,h=>by simp only[Rd]at h;subst h;simp[nilOf_one]
  | .smap,_,_,h=>by
    simp only[Rd]at h
    rcases h with ⟨_,rfl⟩ | ⟨b,es,ck,rfl,_⟩<;>simp[Value.oneCell']
  | .mapT _ _,_,_,h=>by simp only[Rd]at h;rw[h.2];simp[Value.oneCell']
theorem C.one {E:Env}{w:World}:∀ (v:AV) (cs:List Value) (T:Ty),C E w v cs→v.ty=some T→∀ x∈cs,x.oneCell'=true
  | .bad,_,_,_,h=>by simp[AV.ty]at h
  | .data T x,cs,_,k,h=>Rd.one _ _ _ _ _ k
  | .nils _,_,_,k,h=>by simp only[C]at k;subst k;simp[Value.oneCell']
  | .rp T x,_,_,⟨ad,cells,e,_⟩,h=>by subst e;simp[Value.oneCell']
  | .cp v,_,_,⟨ad,cells,e,_⟩,h=>by subst e;simp[Value.oneCell']
  | .po r l p,_,_,⟨a,e,_⟩,h=>by subst e;simp[Value.oneCell']
  | .ow r e rng,_,_,⟨a,len,cap,ee,_⟩,h=>by subst ee;simp[Value.oneCell']
  | .oa r T p,_,_,_,h=>by simp[AV.ty]at h
  | .pr a b,_,T,⟨c1,c2,e,h1,h2⟩,h=>by
    simp only[AV.ty]at h
    split at h
    · rename_i A B hA hB
      subst e
      intro v hv
      rcases List.mem_append.1 hv with hv | hv
      · exact C.one a _ _ h1 hA v hv
      · exact C.one b _ _ h2 hB v hv
    · exact absurd h (by simp)
  | .fn f l,_,_,⟨vs,e,h1⟩,h=>by subst e;simp[Value.oneCell']
  | .tup l,_,_,_,h=>by simp[AV.ty]at h
  | .unk _ _,_,_,_,h=>by simp[AV.ty]at h
  | .mp r K V,_,_,⟨a,e,_⟩,h=>by subst e;simp[Value.oneCell']
  | .fb f l,_,_,⟨vs,e,h1⟩,h=>by subst e;simp[Value.oneCell']
  | .done,_,_,_,h=>by simp[AV.ty]at h
  | .cons a b,_,_,_,h=>by simp[AV.ty]at h
end Go.Va
