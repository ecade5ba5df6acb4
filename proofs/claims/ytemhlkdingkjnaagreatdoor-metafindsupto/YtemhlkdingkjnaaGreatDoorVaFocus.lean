/-
  Va, part 7: a part of a variable: what it reads as, what the whole reads as when it is set.
-/
import Derived.Test.YtemhlkdingkjnaaGreatDoorVaRes
set_option linter.unusedVariables false
set_option linter.unusedSimpArgs false
namespace Go.Va
open Go
section
variable {E:Env} {w:World}
theorem tyT_nil (T:Ty):tyT T []=some T:=by cases T<;>rfl
theorem offT_nil (T:Ty):offT T []=some 0:=by cases T<;>rfl
theorem getD_nil (T:Ty)(x:Den T):getD T x []=some (.data T x):=by cases T<;>rfl
theorem setX_nil (T:Ty)(x:Den T)(u:AV):setX T x [] u=some u:=by cases T<;>rfl
theorem setD_nil (T:Ty)(x:Den T)(T':Ty)(y:Den T'):setD T x [] T' y=if h:T'=T then some (h ▸ y) else none:=by cases T<;>rfl
theorem getA_nil (c:AV):getA c []=some c:=by cases c<;>rfl
theorem setA_nil (c u:AV):setA c [] u=some u:=by cases c<;>rfl
theorem focusD:∀ (T:Ty) (x:Den T) (cs:List Value) (p:List Stp) (off:Nat) (T':Ty),Rd E.S w T x cs→offT T p=some off→tyT T p=some T' →
    ∃ c1 c' c2,cs=c1++c'++c2∧c1.length=off∧c'.length=T'.sz ∧
      (∀ v,getD T x p=some v→∃ y,v = .data T' y∧Rd E.S w T' y c') ∧
      (∀ y z d,setD T x p T' y=some z→Rd E.S w T' y d→Rd E.S w T z (c1++d++c2)) ∧
      (∀ u v d,setX T x p u=some v→u.ty=some T'→C E w u d→C E w v (c1++d++c2)∧v.ty=some T):=by
  intro T
  have hnil:∀ (T:Ty) (x:Den T) (cs:List Value) (off:Nat) (T':Ty),Rd E.S w T x cs→offT T []=some off→tyT T []=some T' →
    ∃ c1 c' c2,cs=c1++c'++c2∧c1.length=off∧c'.length=T'.sz ∧
      (∀ v,getD T x []=some v→∃ y,v = .data T' y∧Rd E.S w T' y c') ∧
      (∀ y z d,setD T x [] T' y=some z→Rd E.S w T' y d→Rd E.S w T z (c1++d++c2)) ∧
      (∀ u v d,setX T x [] u=some v→u.ty=some T'→C E w u d→C E w v (c1++d++c2)∧v.ty=some T):=by
    intro T x cs off T' h h1 h2
    rw[offT_nil]at h1;rw[tyT_nil]at h2
    injection h1 with h1;injection h2 with h2;subst h1 h2
    refine⟨[],cs,[],by simp,rfl,Rd.length _ _ _ _ _ h,?_,?_,?_⟩
    · intro v hv;rw[getD_nil]at hv;injection hv with hv;exact⟨x,hv.symm,h⟩
    · intro y z d hz hd;rw[setD_nil,dif_pos rfl]at hz;injection hz with hz;subst hz;simpa using hd
    · intro u v d hv hu hd;rw[setX_nil]at hv;injection hv with hv;subst hv;exact⟨by simpa using hd,hu⟩
  induction T with
  | arr k e ih=>
    intro x cs p off T' h h1 h2
    match p with
    | []=>exact hnil _ x cs off T' h h1 h2
    | .f j::p=>simp[offT]at h1
    | .i n::p=>
      simp only[offT]at h1
      split at h1
      · rename_i hn
        simp only[tyT]at h2
        obtain⟨hl,hr⟩:=h
        obtain⟨o1,ho1,ho2⟩:=Option.map_eq_some_iff.1 h1
        have hi:n<List.length x:=by rw[hl];exact hn
        obtain⟨d1,d,d2,e1,e2,e3,e4,e5⟩:=RdL.get (λx c=>Rd.length E.S w e x c) x cs hr n hi
        have hget:List.getD x n (dflt e)=x[n]:=by simp[List.getD,hi]
        obtain⟨c1,c',c2,k1,k2,k3,k4,k5,k6⟩:=ih x[n] d p o1 T' e3 ho1 h2
        refine⟨d1++c1,c',c2++d2,by rw[e1,k1];simp,by rw[List.length_append,e2,k2];exact ho2,k3,?_,?_,?_⟩
        · intro v hv;simp only[getD,hget]at hv;exact k4 v hv
        · intro y z c hz hc
          simp only[setD,hget]at hz
          obtain⟨z1,hz1,hz2⟩:=Option.map_eq_some_iff.1 hz
          subst hz2
          have:=k5 y z1 c hz1 hc
          refine⟨by rw[List.length_set];exact hl,?_⟩
          have es:List.set x n z1=x.take n++([z1]++x.drop (n+1)):=by
            rw[List.set_eq_take_append_cons_drop,if_pos hi];rfl
          rw[es,show d1++c1++c++(c2++d2)=d1++((c1++c++c2)++d2) by simp]
          exact RdL.append _ _ _ _ e4 (RdL.append [z1] _ _ _ ⟨_,[],by simp,this,rfl⟩ e5)
        · intro u v c hv;simp[setX]at hv
      · exact absurd h1 (by simp)
  | pair a b iha ihb=>
    intro x cs p off T' h h1 h2
    match p with
    | []=>exact hnil _ x cs off T' h h1 h2
    | .i n::p=>simp[offT]at h1
    | .f 0::p=>
      simp only[offT]at h1
      simp only[tyT]at h2
      obtain⟨d1,d2,rfl,g1,g2⟩:=h
      obtain⟨c1,c',c2,k1,k2,k3,k4,k5,k6⟩:=iha x.1 d1 p off T' g1 h1 h2
      refine⟨c1,c',c2++d2,by rw[k1];simp,k2,k3,?_,?_,?_⟩
      · intro v hv;simp only[getD]at hv;exact k4 v hv
      · intro y z c hz hc
        simp only[setD]at hz
        obtain⟨z1,hz1,hz2⟩:=Option.map_eq_some_iff.1 hz
        subst hz2
        exact⟨c1++c++c2,d2,by simp,k5 y z1 c hz1 hc,g2⟩
      · intro u v c hv hu hc
        simp only[setX]at hv
        obtain⟨z1,hz1,hz2⟩:=Option.map_eq_some_iff.1 hv
        subst hz2
        obtain⟨q1,q2⟩:=k6 u z1 c hz1 hu hc
        exact⟨⟨c1++c++c2,d2,by simp,q1,g2⟩,by simp[AV.ty,q2]⟩
    | .f (j+1)::p=>
      simp only[offT]at h1
      simp only[tyT]at h2
      obtain⟨o1,ho1,ho2⟩:=Option.map_eq_some_iff.1 h1
      obtain⟨d1,d2,rfl,g1,g2⟩:=h
      obtain⟨c1,c',c2,k1,k2,k3,k4,k5,k6⟩:=ihb x.2 d2 (.f j::p) o1 T' g2 ho1 h2
      refine⟨d1++c1,c',c2,by rw[k1];simp,by rw[List.length_append,k2,Rd.length _ _ _ _ _ g1];exact ho2,k3,?_,?_,?_⟩
      · intro v hv;simp only[getD]at hv;exact k4 v hv
      · intro y z c hz hc
        simp only[setD]at hz
        obtain⟨z1,hz1,hz2⟩:=Option.map_eq_some_iff.1 hz
        subst hz2
        exact⟨d1,c1++c++c2,by simp,g1,k5 y z1 c hz1 hc⟩
      · intro u v c hv hu hc
        simp only[setX]at hv
        obtain⟨z1,hz1,hz2⟩:=Option.map_eq_some_iff.1 hv
        subst hz2
        obtain⟨q1,q2⟩:=k6 u z1 c hz1 hu hc
        exact⟨⟨d1,c1++c++c2,by simp,g1,q1⟩,by simp[AV.ty,q2]⟩
  | _=>
    intro x cs p off T' h h1 h2
    match p with
    | []=>exact hnil _ x cs off T' h h1 h2
    | s::p=>simp[offT]at h1
theorem focusA:∀ (c:AV) (cs:List Value) (p:List Stp) (T:Ty) (off:Nat) (T':Ty),C E w c cs→c.ty=some T→offT T p=some off→tyT T p=some T' →
    ∃ c1 c' c2,cs=c1++c'++c2∧c1.length=off∧c'.length=T'.sz ∧
      (∀ v,getA c p=some v→C E w v c'∧v.ty=some T') ∧
      (∀ u v d,setA c p u=some v→u.ty=some T'→C E w u d→C E w v (c1++d++c2)∧v.ty=some T):=by
  intro c
  have hnil:∀ (c:AV) (cs:List Value) (T:Ty) (off:Nat) (T':Ty),C E w c cs→c.ty=some T→offT T []=some off→tyT T []=some T' →
    ∃ c1 c' c2,cs=c1++c'++c2∧c1.length=off∧c'.length=T'.sz ∧
      (∀ v,getA c []=some v→C E w v c'∧v.ty=some T') ∧
      (∀ u v d,setA c [] u=some v→u.ty=some T'→C E w u d→C E w v (c1++d++c2)∧v.ty=some T):=by
    intro c cs T off T' h ht h1 h2
    rw[offT_nil]at h1;rw[tyT_nil]at h2
    injection h1 with h1;injection h2 with h2;subst h1 h2
    refine⟨[],cs,[],by simp,rfl,C.length _ _ _ h ht,?_,?_⟩
    · intro v hv;rw[getA_nil]at hv;injection hv with hv;subst hv;exact⟨h,ht⟩
    · intro u v d hv hu hd;rw[setA_nil]at hv;injection hv with hv;subst hv;exact⟨by simpa using hd,hu⟩
  have hone:∀ (c:AV) (cs:List Value) (p:List Stp) (T:Ty) (off:Nat) (T':Ty),T.agg=false→C E w c cs→c.ty=some T→offT T p=some off→tyT T p=some T' →
    ∃ c1 c' c2,cs=c1++c'++c2∧c1.length=off∧c'.length=T'.sz ∧
      (∀ v,getA c p=some v→C E w v c'∧v.ty=some T') ∧
      (∀ u v d,setA c p u=some v→u.ty=some T'→C E w u d→C E w v (c1++d++c2)∧v.ty=some T):=by
    intro c cs p T off T' ha h ht h1 h2
    match p with
    | []=>exact hnil c cs T off T' h ht h1 h2
    | s::p=>cases T<;>simp_all [offT,Ty.agg]
  induction c with
  | data T0 x=>
    intro cs p T off T' h ht h1 h2
    simp only[AV.ty]at ht
    injection ht with ht;subst ht
    match p with
    | []=>exact hnil _ cs _ off T' h rfl h1 h2
    | s :: p=>
      obtain⟨c1,c',c2,k1,k2,k3,k4,k5,k6⟩:=focusD T0 x cs (s::p) off T' h h1 h2
      refine⟨c1,c',c2,k1,k2,k3,?_,?_⟩
      · intro v hv
        simp only[getA]at hv
        obtain⟨y,rfl,hy⟩:=k4 v hv
        exact⟨hy,rfl⟩
      · intro u v d hv hu hd
        cases u with
        | data T1 y=>
          simp only[setA]at hv
          simp only[AV.ty]at hu
          injection hu with hu;subst hu
          obtain⟨z,hz1,hz2⟩:=Option.map_eq_some_iff.1 hv
          subst hz2
          exact⟨k5 y z d hz1 hd,rfl⟩
        | _=>simp only[setA]at hv;exact k6 _ v d hv hu hd
  | pr a b iha ihb=>
    intro cs p T off T' h ht h1 h2
    match p with
    | []=>exact hnil _ cs _ off T' h ht h1 h2
    | s :: p=>
      simp only[AV.ty]at ht
      split at ht
      · rename_i A B hA hB
        injection ht with ht;subst ht
        obtain⟨d1,d2,rfl,g1,g2⟩:=h
        match s with
        | .i n=>simp[offT]at h1
        | .f 0=>
          simp only[offT]at h1
          simp only[tyT]at h2
          obtain⟨c1,c',c2,k1,k2,k3,k4,k5⟩:=iha d1 p A off T' g1 hA h1 h2
          refine⟨c1,c',c2++d2,by rw[k1];simp,k2,k3,?_,?_⟩
          · intro v hv;simp only[getA]at hv;exact k4 v hv
          · intro u v d hv hu hd
            have hv':(setA a p u).map (λv=>AV.pr v b)=some v:=by cases u<;>exact hv
            obtain⟨z,hz1,hz2⟩:=Option.map_eq_some_iff.1 hv'
            subst hz2
            obtain⟨q1,q2⟩:=k5 u z d hz1 hu hd
            exact⟨⟨c1++d++c2,d2,by simp,q1,g2⟩,by simp[AV.ty,q2,hB]⟩
        | .f (j+1)=>
          simp only[offT]at h1
          simp only[tyT]at h2
          obtain⟨o1,ho1,ho2⟩:=Option.map_eq_some_iff.1 h1
          obtain⟨c1,c',c2,k1,k2,k3,k4,k5⟩:=ihb d2 (.f j::p) B o1 T' g2 hB ho1 h2
          refine⟨d1++c1,c',c2,by rw[k1];simp,by rw[List.length_append,k2,C.length _ _ _ g1 hA];exact ho2,k3,?_,?_⟩
          · intro v hv;simp only[getA]at hv;exact k4 v hv
          · intro u v d hv hu hd
            have hv':(setA b (.f j::p) u).map (λv=>AV.pr a v)=some v:=by cases u<;>exact hv
            obtain⟨z,hz1,hz2⟩:=Option.map_eq_some_iff.1 hv'
            subst hz2
            obtain⟨q1,q2⟩:=k5 u z d hz1 hu hd
            exact⟨⟨d1,c1++d++c2,by simp,g1,q1⟩,by simp[AV.ty,q2,hA]⟩
      · exact absurd ht (by simp)
  | bad=>intro cs p T off T' h ht;simp[AV.ty]at ht
  | tup l _=>intro cs p T off T' h ht;simp[AV.ty]at ht
  | done=>intro cs p T off T' h ht;simp[AV.ty]at ht
  | unk cc ng=>intro cs p T off T' h ht;simp[AV.ty]at ht
  | cons a b _ _=>intro cs p T off T' h ht;simp[AV.ty]at ht
  | oa r T p=>intro cs p T off T' h ht;simp[AV.ty]at ht
  | nils e=>intro cs p T off T' h ht;refine hone _ cs p T off T' ?_ h ht;simp[AV.ty]at ht;subst ht;rfl
  | rp T x=>intro cs p T off T' h ht;refine hone _ cs p T off T' ?_ h ht;simp[AV.ty]at ht;subst ht;rfl
  | cp v _=>intro cs p T off T' h ht;refine hone _ cs p T off T' ?_ h ht;simp[AV.ty]at ht;subst ht;rfl
  | po r l q=>intro cs p T off T' h ht;refine hone _ cs p T off T' ?_ h ht;simp[AV.ty]at ht;subst ht;rfl
  | ow r e rng=>intro cs p T off T' h ht;refine hone _ cs p T off T' ?_ h ht;simp[AV.ty]at ht;subst ht;rfl
  | fn f l _=>intro cs p T off T' h ht;refine hone _ cs p T off T' ?_ h ht;simp[AV.ty]at ht;subst ht;rfl
  | fb f l _=>intro cs p T off T' h ht;refine hone _ cs p T off T' ?_ h ht;simp[AV.ty]at ht;subst ht;rfl
  | mp r K V=>intro cs p T off T' h ht;refine hone _ cs p T off T' ?_ h ht;simp[AV.ty]at ht;subst ht;rfl
theorem isAgg_ty {v:AV}{T:Ty}(h:v.ty=some T):v.isAgg=T.agg:=by
  cases v with
  | data T' x=>simp only[AV.ty]at h;injection h with h;subst h;rfl
  | pr a b=>
    simp only[AV.ty]at h
    split at h
    · injection h with h;subst h;rfl
    · exact absurd h (by simp)
  | _=>simp[AV.ty]at h<;>(subst h;rfl)
theorem V_ofCells {v:AV}{T:Ty}{cs:List Value}(h:C E w v cs)(ht:v.ty=some T):V E w v (ybl T cs):=by
  unfold V ybl
  rw[isAgg_ty ht]
  cases ha:T.agg with
  | true=>simp only[if_true];exact⟨cs.toArray,rfl,by simpa using h⟩
  | false=>
    have hl:=C.length _ _ _ h ht
    rw[Ty.sz_one ha]at hl
    match cs,hl with
    | [x],_=>simpa using h
theorem V_cells {v:AV}{T:Ty}{x:Value}(h:V E w v x)(ht:v.ty=some T):C E w v x.cells.toList:=by
  unfold V at h
  split at h
  · obtain⟨c,rfl,h⟩:=h;exact h
  · have h1:=C.one _ _ _ h ht x (by simp)
    cases x<;>simp_all [Value.cells,Value.oneCell']
end
end Go.Va
