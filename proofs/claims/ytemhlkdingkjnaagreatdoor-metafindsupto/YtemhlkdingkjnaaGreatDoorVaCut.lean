/-
  Va, part 25: a cut: what is kept of a state, and the state that is built again of it.
-/
import Derived.Test.YtemhlkdingkjnaaGreatDoorVaDraw
set_option linter.unusedVariables false
set_option linter.unusedSimpArgs false
namespace Go.Va
open Go
section
variable {P0 S0:Nat→Prop} {w:World}
theorem nodup_cons {x:Nat}{l:List Nat}(h:nodup (x::l)=true):x ∉ l∧nodup l=true:=by
  unfold nodup at h
  rw[Bool.and_eq_true]at h
  exact⟨by simpa using h.1,h.2⟩
theorem rows_names:∀ (sh:Sh) (x:Den sh.ty),(sh.rows x).map Prod.fst=sh.names
  | .d _,_=>rfl
  | .r _ _,_=>rfl
  | .al _ _,_=>rfl
  | .m _ _ _,_=>rfl
  | .p a b,x=>by simp only[Sh.rows,Sh.names,List.map_append];rw[rows_names a,rows_names b]
theorem yd3 [Gl]:∀ (g:List Si) (v:Dens g),(ybT g v).map Prod.fst=ycB g
  | [],_=>rfl
  | .val i sh::g,v=>by simp only[ybT,ycB,List.map_append];rw[rows_names,yd3 g v.2]
  | .ref _ _ _::g,v=>yd3 g v
  | .box r sh::g,v=>by simp only[ybT,ycB,List.map_append,List.map_cons];rw[rows_names,yd3 g v.2]
  | .bor _ _ r sh::g,v=>by simp only[ybT,ycB,List.map_append,List.map_cons];rw[rows_names,yd3 g v.2]
  | .clo _ _ _::g,v=>yd3 g v
theorem look_none [Gl]{g:List Si}{v:Dens g}{r:Nat}(h:r ∉ ycB g):updL (ybT g v) (λ_=>Ent.un) r = .un:=by
  rw[yc8,ydA (by rw[yd3];exact h)]
theorem findW_mem {q:Nat}{e:Ent}:∀ {l:List (Nat×Ent)},findW q l=some e→(q,e)∈l
  | [],h=>by simp[findW]at h
  | (q',e')::l,h=>by
    simp only[findW]at h
    split at h
    · rename_i hqq
      injection h with h;subst h
      have:q=q':=by simpa using hqq
      subst this;exact List.mem_cons_self
    · exact List.mem_cons_of_mem _ (findW_mem h)
theorem findW_some {q:Nat}:∀ {l:List (Nat×Ent)},q∈l.map Prod.fst→∃ e,findW q l=some e
  | [],h=>by simp at h
  | (q',e')::l,h=>by
    simp only[findW]
    split
    · exact⟨e',rfl⟩
    · rename_i hne
      simp only[List.map_cons,List.mem_cons]at h
      rcases h with h | h
      · exact absurd (by simpa using h) hne
      · exact findW_some h
def cutL (k:Nat):Option Lay→Option Lay
  | none=>none
  | some L=>some ⟨L.ly,L.N,min k L.M⟩
def MvOk (E E':Env):Mv→Prop
  | .mv r q=>E'.U r∧E'.β r=E.β q∧E'.L r=E.L q
  | .cutm r q k=>E'.U r∧E'.β r=E.β q∧E'.L r=cutL k (E.L q)
  | .nilm r e=>E'.U r∧E'.β r=none∧E'.L r=some ⟨.row e,0,0⟩
def MvsOk (E E':Env)(ms:List Mv):Prop:=∀ m∈ms,MvOk E E' m
theorem MvsOk.left {E E':Env}{a b:List Mv}(h:MvsOk E E' (a++b)):MvsOk E E' a:=λm hm=>h m (List.mem_append.2 (.inl hm))
theorem MvsOk.right {E E':Env}{a b:List Mv}(h:MvsOk E E' (a++b)):MvsOk E E' b:=λm hm=>h m (List.mem_append.2 (.inr hm))
theorem take_p {look:Nat→Ent} {a b:Sh} {u:AV} {x:Den (Sh.p a b).ty} {rs:List Nat} {ms:List Mv} (h:take look (.p a b) u=some (x,rs,ms)) :
    ∃ u1 u2 r1 r2 m1 m2,rs=r1++r2∧ms=m1++m2∧take look a u1=some (x.1,r1,m1)∧take look b u2=some (x.2,r2,m2)∧u.isAgg=true ∧
      ∀ (E:Env) (w:World) (cs:List Value),C E w u cs→∃ c1 c2,cs=c1++c2∧C E w u1 c1∧C E w u2 c2:=by
  cases u with
  | pr u1 u2=>
    simp only[take]at h
    split at h
    · exact absurd h (by simp)
    · rename_i y r1 m1 h1
      split at h
      · exact absurd h (by simp)
      · rename_i z r2 m2 h2
        injection h with h;injection h with e1 h;injection h with e2 e3
        subst e1 e2 e3
        exact⟨u1,u2,r1,r2,m1,m2,rfl,rfl,h1,h2,rfl,λE w cs hc=>hc⟩
  | data T z=>
    cases T with
    | pair A B=>
      simp only[take]at h
      split at h
      · exact absurd h (by simp)
      · rename_i y r1 m1 h1
        split at h
        · exact absurd h (by simp)
        · rename_i y2 r2 m2 h2
          injection h with h;injection h with e1 h;injection h with e2 e3
          subst e1 e2 e3
          exact⟨_,_,r1,r2,m1,m2,rfl,rfl,h1,h2,rfl,λE w cs hc=>hc⟩
    | _=>simp[take]at h
  | _=>simp[take]at h
theorem take_d {look:Nat→Ent}{T:Ty}{u:AV}{x:Den T}{rs:List Nat}{ms:List Mv}(h:take look (.d T) u=some (x,rs,ms)):res look T u=some (x,rs)∧ms=[]:=by
  cases hr:res look T u with
  | none=>simp[take,hr]at h
  | some y=>
    obtain⟨y,ys⟩:=y
    simp only[take,hr]at h
    injection h with h;injection h with e1 h;injection h with e2 e3
    subst e1 e2 e3
    exact⟨rfl,rfl⟩
theorem take_r {look:Nat→Ent} {r:Nat} {e:Ty} {u:AV} {x:List (Den e)} {rs:List Nat} {ms:List Mv} (h:take look (.r r e) u=some (x,rs,ms)) :
    rs=[]∧((∃ e',u = .nils e'∧x=[]∧ms=[.nilm r e])∨(∃ q,u = .ow q e none∧look q = .live (.row e x)∧ms=[.mv r q]) ∨
      (∃ q k l,u = .ow q e (some (0,k))∧look q = .live (.row e l)∧x=l.take k∧ms=[.cutm r q k])):=by
  cases u with
  | nils e'=>
    simp only[take]at h
    injection h with h;injection h with e1 h;injection h with e2 e3
    exact⟨e2.symm,.inl ⟨e',rfl,e1.symm,e3.symm⟩⟩
  | ow q e' rng=>
    simp only[take]at h
    split at h
    · rename_i e1 l hl
      split at h
      · rename_i hh
        obtain⟨ha,hb⟩:=hh
        subst ha hb
        split at h
        · injection h with h;injection h with e1 h;injection h with e2 e3
          subst e1
          exact⟨e2.symm,.inr (.inl ⟨q,rfl,hl,e3.symm⟩)⟩
        · rename_i k
          injection h with h;injection h with e1 h;injection h with e2 e3
          exact⟨e2.symm,.inr (.inr ⟨q,k,l,rfl,hl,e1.symm,e3.symm⟩)⟩
        · exact absurd h (by simp)
      · exact absurd h (by simp)
    · exact absurd h (by simp)
  | _=>simp[take]at h
theorem take_q {look:Nat→Ent} {r:Nat} {T:Ty} {u:AV} {x:Den (Sh.al r T).ty} {rs:List Nat} {ms:List Mv} (h:take look (.al r T) u=some (x,rs,ms)):u = .po r (.box T) []∧rs=[]∧ms=[]:=by
  cases u with
  | po q l p=>
    cases l with
    | row e=>simp[take]at h
    | mp _ _=>simp[take]at h
    | box T'=>
      cases p with
      | cons _ _=>simp[take]at h
      | nil=>
        simp only[take]at h
        split at h
        · rename_i hh
          obtain⟨e1,e2⟩:=hh
          subst e1 e2
          injection h with h;injection h with _ h;injection h with e3 e4
          exact⟨rfl,e3.symm,e4.symm⟩
        · exact absurd h (by simp)
  | _=>simp[take]at h
theorem take_m {look:Nat→Ent} {r:Nat} {K V':Ty} {u:AV} {x:List (Den K×Den V')} {rs:List Nat} {ms:List Mv} (h:take look (.m r K V') u=some (x,rs,ms)) :
    rs=[]∧∃ q,u = .mp q K V'∧look q = .live (.mp K V' x)∧ms=[.mv r q]:=by
  cases u with
  | mp q K0 V0=>
    simp only[take]at h
    split at h
    · rename_i K1 V1 l hl
      split at h
      · rename_i hh
        obtain⟨⟨rfl,rfl⟩,rfl,rfl⟩:=hh
        injection h with h;injection h with e1 h;injection h with e2 e3
        subst e1
        exact⟨e2.symm,q,rfl,hl,e3.symm⟩
      · exact absurd h (by simp)
    · exact absurd h (by simp)
  | _=>simp[take]at h
theorem MpL.mono {E E':Env}{w:World}{K V':Ty}(h:∀ b,E.S b→E'.S b):∀ (l:List (Den K×Den V')) (es:List MapEntry),MpL E w K V' l es→MpL E' w K V' l es
  | [],_,k=>k
  | p :: l,_,⟨e,r,h1,h2,h3,h4⟩=>by
    have hm:∀ (T:Ty) (x:Den T) (y:Value),Va.V E w (.data T x) y→Va.V E' w (.data T x) y:=λT x y k=>by
      unfold Va.V at k ⊢
      split at k
      · rename_i ha;rw[if_pos ha];obtain⟨c,hc,k⟩:=k;exact⟨c,hc,Rd.keep (.refl _ _) h T x _ k⟩
      · rename_i ha;rw[if_neg ha];exact Rd.keep (.refl _ _) h T x _ k
    exact⟨e,r,h1,hm _ _ _ h2,hm _ _ _ h3,MpL.mono h l r h4⟩
theorem take_names [Gl]{look:Nat→Ent}:∀ (sh:Sh) (u:AV) (x:Den sh.ty) (rs:List Nat) (ms:List Mv),take look sh u=some (x,rs,ms)→ms.map Mv.name=sh.names
  | .d T,u,x,rs,ms,h=>by rw[(take_d h).2];rfl
  | .r r e,u,x,rs,ms,h=>by
    rcases (take_r h).2 with ⟨_,_,_,e⟩ | ⟨_,_,_,e⟩ | ⟨_,_,_,_,_,_,e⟩<;>(rw[e];rfl)
  | .p a b,u,x,rs,ms,h=>by
    obtain⟨u1,u2,r1,r2,m1,m2,_,e2,h1,h2,_⟩:=take_p h
    rw[e2,List.map_append,take_names a _ _ _ _ h1,take_names b _ _ _ _ h2];rfl
  | .al r T,u,x,rs,ms,h=>by rw[(take_q h).2.2];rfl
  | .m r K V',u,x,rs,ms,h=>by obtain⟨_,q,_,_,e⟩:=take_m h;rw[e];rfl
theorem take_live [Gl]{look:Nat→Ent}:∀ (sh:Sh) (u:AV) (x:Den sh.ty) (rs:List Nat) (ms:List Mv),take look sh u=some (x,rs,ms)→∀ m∈ms,∀ q,m.src=some q→(look q).isLive=true
  | .d T,u,x,rs,ms,h,m,hm,q,hq=>by rw[(take_d h).2]at hm;simp at hm
  | .r r e,u,x,rs,ms,h,m,hm,q,hq=>by
    rcases (take_r h).2 with ⟨_,_,_,e⟩ | ⟨q',_,hl,e⟩ | ⟨q',_,_,_,hl,_,e⟩
    · rw[e]at hm;simp at hm;subst hm;simp[Mv.src]at hq
    · rw[e]at hm;simp at hm;subst hm;simp[Mv.src]at hq;subst hq;rw[hl];rfl
    · rw[e]at hm;simp at hm;subst hm;simp[Mv.src]at hq;subst hq;rw[hl];rfl
  | .p a b,u,x,rs,ms,h,m,hm,q,hq=>by
    obtain⟨u1,u2,r1,r2,m1,m2,_,e2,h1,h2,_⟩:=take_p h
    rw[e2]at hm
    rcases List.mem_append.1 hm with hm | hm
    · exact take_live a _ _ _ _ h1 m hm q hq
    · exact take_live b _ _ _ _ h2 m hm q hq
  | .al r T,u,x,rs,ms,h,m,hm,q,hq=>by rw[(take_q h).2.2]at hm;simp at hm
  | .m r K V',u,x,rs,ms,h,m,hm,q,hq=>by
    obtain⟨_,q',_,hl,e⟩:=take_m h
    rw[e]at hm;simp at hm;subst hm;simp[Mv.src]at hq;subst hq;rw[hl];rfl
theorem av_ty:∀ (sh:Sh) (x:Den sh.ty),(sh.av x).ty=some sh.ty
  | .d T,x=>rfl
  | .r r e,x=>rfl
  | .p a b,x=>by simp only[Sh.av,AV.ty,av_ty a,av_ty b]
  | .al r T,x=>rfl
  | .m r K V',x=>rfl
theorem av_agg:∀ (sh:Sh) (x:Den sh.ty),(sh.av x).isAgg=sh.ty.agg
  | .d T,x=>rfl
  | .r r e,x=>rfl
  | .p a b,x=>rfl
  | .al r T,x=>rfl
  | .m r K V',x=>rfl
theorem res_agg {look:Nat→Ent}{T:Ty}{v:AV}{x:Den T}{rs:List Nat}(h:res look T v=some (x,rs)):v.isAgg=T.agg:=by
  cases v with
  | data T' y=>
    simp only[res]at h
    split at h
    · rename_i e;subst e;rfl
    · exact absurd h (by simp)
  | nils e=>cases T with
    | slice e'=>rfl
    | _=>simp[res]at h
  | ow r e g=>cases T with
    | slice e'=>rfl
    | _=>simp[res]at h
  | pr a b=>cases T with
    | pair A B=>rfl
    | _=>simp[res]at h
  | _=>cases T<;>simp[res]at h
theorem take_agg [Gl]{look:Nat→Ent}{sh:Sh}{u:AV}{x:Den sh.ty}{rs:List Nat}{ms:List Mv}(h:take look sh u=some (x,rs,ms)):u.isAgg=sh.ty.agg:=by
  cases sh with
  | d T=>exact res_agg (take_d h).1
  | r q e=>
    rcases (take_r h).2 with ⟨_,e,_,_⟩ | ⟨_,e,_,_⟩ | ⟨_,_,_,e,_,_,_⟩<;>(rw[e];rfl)
  | p a b=>
    obtain⟨u1,u2,r1,r2,m1,m2,_,e2,h1,h2,h3,_⟩:=take_p h
    rw[h3];rfl
  | al r T=>rw[(take_q h).1];rfl
  | m r K V'=>obtain⟨_,q,e,_,_⟩:=take_m h;rw[e];rfl
theorem take_C [Gl] {E E1 E':Env} {look:Nat→Ent} {rs0:List Nat} (h:HREL P0 S0 E look w) (x1:Ext P0 E w E1 w)
    (hsh:∀ r∈rs0,∀ T l,look r = .live (.row T l)→∀ b,E.β r=some b→E1.S b) (hS:E'.S=E1.S) :
    ∀ (sh:Sh) (u:AV) (x:Den sh.ty) (rs:List Nat) (ms:List Mv) (cs:List Value),take look sh u=some (x,rs,ms)→(∀ r∈rs,r∈rs0)→(∀ r∈sh.refs,MvOk E E' (.mv r r))→MvsOk E E' ms→C E w u cs→C E' w (sh.av x) cs
  | .d T,u,x,rs,ms,cs,ht,hr,hq0,hm,hc=>by
    have:=res_rd T u x rs cs E1 h (take_d ht).1 hc x1 (λq hq=>hsh q (hr q hq))
    change Rd E'.S w T x cs
    rw[hS];exact this
  | .al r T,u,x,rs,ms,cs,ht,hr,hq0,hm,hc=>by
    obtain⟨eu,_,_⟩:=take_q ht
    rw[eu]at hc
    obtain⟨a,ea,hu,hL⟩:=hc
    obtain⟨g1,g2,g3⟩:=hq0 r (by simp[Sh.refs])
    exact⟨a,ea,g1,λL hL'=>by rw[g2];exact hL L (g3 ▸ hL')⟩
  | .m r K V',u,x,rs,ms,cs,ht,hr,hq0,hm,hc=>by
    obtain⟨_,q,eu,hl,em⟩:=take_m ht
    obtain⟨k1,k2,k3⟩:=hm (.mv r q) (by rw[em];simp)
    rw[eu]at hc
    obtain⟨a,ea,hu,hL⟩:=hc
    exact⟨a,ea,k1,λL hL'=>by rw[k2];exact hL L (k3 ▸ hL')⟩
  | .r r e,u,x,rs,ms,cs,ht,hr,hq0,hm,hc=>by
    rcases (take_r ht).2 with ⟨e',eu,hx,em⟩ | ⟨q,eu,hl,em⟩ | ⟨q,k,l,eu,hl,hx,em⟩
    · obtain⟨k1,k2,k3⟩:=hm (.nilm r e) (by rw[em];simp)
      rw[eu]at hc
      simp only[C]at hc
      rw[hc]
      refine⟨none,0,0,rfl,k1,λL hL' => ?_⟩
      rw[k3]at hL'
      injection hL' with hL'; subst hL'
      rw[k2]
      exact⟨rfl,0,⟨rfl,rfl⟩,Nat.le_refl _,rfl⟩
    · obtain⟨k1,k2,k3⟩:=hm (.mv r q) (by rw[em];simp)
      rw[eu]at hc
      obtain⟨a,len,cap,ea,hu,hL⟩:=hc
      refine⟨a,len,cap,ea,k1,λL hL' => ?_⟩
      rw[k2]
      exact hL L (k3 ▸ hL')
    · obtain⟨k1,k2,k3⟩:=hm (.cutm r q k) (by rw[em];simp)
      rw[eu]at hc
      obtain⟨a,len,cap,ea,hu,hL⟩:=hc
      refine⟨a,len,cap,ea,k1,λL' hL' => ?_⟩
      rw[k3]at hL'
      cases hq:E.L q with
      | none=>rw[hq]at hL'; exact absurd hL' (by simp[cutL])
      | some L=>
        rw[hq]at hL'
        simp only[cutL]at hL'
        injection hL' with hL'; subst hL'
        obtain⟨g1,lo,⟨g2,g3⟩,g4,g5⟩:=hL L hq
        subst g2
        have hkm:k≤L.M:=by omega
        refine⟨g1,0,⟨rfl,by rw[g3];exact (Nat.min_eq_left hkm).symm⟩,by show 0+len≤min k L.M;omega,?_⟩
        rw[k2]
        cases hb:E.β q with
        | none=>rw[hb]at g5;exact g5
        | some b=>
          rw[hb]at g5
          obtain⟨o1,o2,o3,o4⟩:=g5
          exact⟨o1,o2,o3,by show min k L.M≤0+cap;omega⟩
  | .p a b,u,x,rs,ms,cs,ht,hr,hq0,hm,hc=>by
    obtain⟨u1,u2,r1,r2,m1,m2,e1,e2,h1,h2,h3,h4⟩:=take_p ht
    obtain⟨c1,c2,ec,k1,k2⟩:=h4 E w cs hc
    subst e1 e2
    exact⟨c1,c2,ec,take_C h x1 hsh hS a _ _ _ _ _ h1 (λr hr'=>hr r (by simp[hr'])) (λr hr'=>hq0 r (by simp[Sh.refs,hr'])) hm.left k1,
      take_C h x1 hsh hS b _ _ _ _ _ h2 (λr hr'=>hr r (by simp[hr'])) (λr hr'=>hq0 r (by simp[Sh.refs,hr'])) hm.right k2⟩
theorem take_V [Gl]{E E1 E':Env}{look:Nat→Ent}{rs0:List Nat}(h:HREL P0 S0 E look w)(x1:Ext P0 E w E1 w)
    (hsh:∀ r∈rs0,∀ T l,look r = .live (.row T l)→∀ b,E.β r=some b→E1.S b) (hS:E'.S=E1.S)
    {sh:Sh} {u:AV} {x:Den sh.ty} {rs:List Nat} {ms:List Mv} {y:Value} (ht:take look sh u=some (x,rs,ms)) (hr:∀ r∈rs,r∈rs0) (hq0:∀ r∈sh.refs,MvOk E E' (.mv r r)) (hm:MvsOk E E' ms) (hv:V E w u y):V E' w (sh.av x) y:=by
  unfold V at *
  rw[av_agg]
  rw[take_agg ht]at hv
  split at hv
  · rename_i hh;rw[if_pos hh]
    obtain⟨c,rfl,hc⟩:=hv
    exact⟨c,rfl,take_C h x1 hsh hS sh u x rs ms _ ht hr hq0 hm hc⟩
  · rename_i hh;rw[if_neg hh]
    exact take_C h x1 hsh hS sh u x rs ms _ ht hr hq0 hm hv
theorem take_rows [Gl] {E E1 E':Env} {look:Nat→Ent} (h:HREL P0 S0 E look w) (x1:Ext P0 E w E1 w) (hS:E'.S=E1.S) :
    ∀ (sh:Sh) (u:AV) (x:Den sh.ty) (rs:List Nat) (ms:List Mv),take look sh u=some (x,rs,ms)→MvsOk E E' ms→∀ p∈sh.rows x,∃ o,p.2 = .live o∧OREL E' w p.1 o
  | .d T,u,x,rs,ms,ht,hm,p,hp=>by simp[Sh.rows]at hp
  | .r r e,u,x,rs,ms,ht,hm,p,hp=>by
    simp only[Sh.rows,List.mem_singleton]at hp
    subst hp
    have hmono:∀ y c,Rd E.S w e y c→Rd E'.S w e y c:=λy c hh=>Rd.keep (.refl _ _) (λb hb=>by rw[hS];exact x1.s b hb) e y c hh
    rcases (take_r ht).2 with ⟨e',eu,hx,em⟩ | ⟨q,eu,hl,em⟩ | ⟨q,k,l,eu,hl,hx,em⟩
    · obtain⟨k1,k2,k3⟩:=hm (.nilm r e) (by rw[em];simp)
      refine⟨_,rfl,0,?_,?_⟩
      · rw[k3,hx];rfl
      · simp only[k2];exact hx
    · obtain⟨k1,k2,k3⟩:=hm (.mv r q) (by rw[em];simp)
      have hent:=h.ent q
      rw[hl]at hent
      obtain⟨hu,N,g1,g2⟩:=hent
      refine⟨_,rfl,N,k3.trans g1,?_⟩
      simp only[k2]
      cases hb:E.β q with
      | none=>rw[hb]at g2;exact g2
      | some b=>
        rw[hb]at g2
        obtain⟨cs,t,fr,c1,c2,m1,m2,m3,m4,m5⟩:=g2
        exact⟨cs,t,fr,c1,c2,m1,m2,m3,m4,RdL.mono hmono _ _ m5⟩
    · obtain⟨k1,k2,k3⟩:=hm (.cutm r q k) (by rw[em];simp)
      have hent:=h.ent q
      rw[hl]at hent
      obtain⟨hu,N,g1,g2⟩:=hent
      refine⟨_,rfl,N,?_,?_⟩
      · rw[k3,g1]
        simp only[cutL,hx,List.length_take]
      · simp only[k2]
        cases hb:E.β q with
        | none=>rw[hb]at g2;simp only at g2 ⊢; rw[hx,g2];simp
        | some b=>
          rw[hb]at g2
          obtain⟨cs,t,fr,c1,c2,m1,m2,m3,m4,m5⟩:=g2
          have m5':=RdL.mono hmono _ _ m5
          rw[← List.take_append_drop k l]at m5'
          obtain⟨d1,d2,ed,n1,n2⟩:=RdL.split _ _ _ m5'
          refine⟨cs,t,fr,d1,d2++c2,m1,m2,m3,?_,?_⟩
          · rw[m4,ed,List.append_assoc]
          · rw[hx];exact n1
  | .p a b,u,x,rs,ms,ht,hm,p,hp=>by
    obtain⟨u1,u2,r1,r2,m1,m2,e1,e2,h1,h2,h3,h4⟩:=take_p ht
    subst e1 e2
    simp only[Sh.rows,List.mem_append]at hp
    rcases hp with hp | hp
    · exact take_rows h x1 hS a _ _ _ _ h1 hm.left p hp
    · exact take_rows h x1 hS b _ _ _ _ h2 hm.right p hp
  | .al r T,u,x,rs,ms,ht,hm,p,hp=>by simp[Sh.rows]at hp
  | .m r K V',u,x,rs,ms,ht,hm,p,hp=>by
    simp only[Sh.rows,List.mem_singleton]at hp
    subst hp
    obtain⟨_,q,eu,hl,em⟩:=take_m ht
    obtain⟨k1,k2,k3⟩:=hm (.mv r q) (by rw[em];simp)
    have hent:=h.ent q
    rw[hl]at hent
    obtain⟨hu,b,es,ck,g1,g2,g3,g4⟩:=hent
    exact⟨_,rfl,b,es,ck,k2.trans g1,k3.trans g2,g3,MpL.mono (λb hb=>by rw[hS];exact x1.s b hb) _ _ g4.1,g4.2⟩
theorem extr_val {s:St}{look:Nat→Ent}{i:Nat}{sh:Sh}{g:List Si}{v:Dens (.val i sh::g)}{rs:List Nat}{ms:List Mv}(h:extr s look (.val i sh::g)=some (v,rs,ms)) :
    ∃ r1 r2 m1 m2,rs=r1++r2∧ms=m1++m2∧take look sh (getAt .bad s.sl i)=some (v.1,r1,m1)∧extr s look g=some (v.2,r2,m2):=by
  simp only[extr]at h
  split at h
  · exact absurd h (by simp)
  · rename_i x r1 m1 h1
    split at h
    · exact absurd h (by simp)
    · rename_i y a b h2
      injection h with h;injection h with e1 h;injection h with e2 e3
      subst e1 e2 e3
      exact⟨r1,a,m1,b,rfl,rfl,h1,h2⟩
theorem extr_ref {s:St}{look:Nat→Ent}{i r:Nat}{T:Ty}{g:List Si}{v:Dens (.ref i r T::g)}{rs:List Nat}{ms:List Mv}(h:extr s look (.ref i r T::g)=some (v,rs,ms)) :
    getAt .bad s.sl i = .po r (.box T) []∧extr s look g=some (v,rs,ms):=by
  simp only[extr]at h
  split at h
  · rename_i r' T' h1
    split at h
    · rename_i h2;obtain⟨rfl,rfl⟩:=h2;exact⟨h1,h⟩
    · exact absurd h (by simp)
  · exact absurd h (by simp)
theorem extr_box {s:St} {look:Nat→Ent} {r:Nat} {sh:Sh} {g:List Si} {v:Dens (.box r sh::g)} {rs:List Nat} {ms:List Mv} (h:extr s look (.box r sh::g)=some (v,rs,ms)) :
    ∃ c r1 r2 m1 m2,look r = .live (.box sh.ty c)∧rs=r1++r2∧ms = .mv r r::(m1++m2)∧take look sh c=some (v.1,r1,m1)∧extr s look g=some (v.2,r2,m2):=by
  simp only[extr]at h
  split at h
  · rename_i T' c h1
    split at h
    · rename_i hT;subst hT
      split at h
      · exact absurd h (by simp)
      · rename_i x r1 m1 h2
        split at h
        · exact absurd h (by simp)
        · rename_i y a b h3
          injection h with h;injection h with e1 h;injection h with e2 e3
          subst e1 e2 e3
          exact⟨c,r1,a,m1,b,h1,rfl,rfl,h2,h3⟩
    · exact absurd h (by simp)
  · exact absurd h (by simp)
theorem extr_bor {s:St} {look:Nat→Ent} {i:Nat} {c:Option Nat} {r:Nat} {sh:Sh} {g:List Si} {v:Dens (.bor i c r sh::g)} {rs:List Nat} {ms:List Mv} (h:extr s look (.bor i c r sh::g)=some (v,rs,ms)) :
    ∃ q u r1 r2 m1 m2,locAV s.sl i c = .po q (.box sh.ty) []∧look q = .live (.box sh.ty u)∧rs=r1++r2∧ms = .mv r q::(m1++m2)∧take look sh u=some (v.1,r1,m1)∧extr s look g=some (v.2,r2,m2):=by
  simp only[extr]at h
  split at h
  · rename_i q T1 h0
    split at h
    · rename_i T' u h1
      split at h
      · rename_i hT
        obtain⟨hT,hT1⟩:=hT
        subst hT hT1
        split at h
        · exact absurd h (by simp)
        · rename_i x r1 m1 h2
          split at h
          · exact absurd h (by simp)
          · rename_i y a b h3
            injection h with h;injection h with e1 h;injection h with e2 e3
            subst e1 e2 e3
            exact⟨q,u,r1,a,m1,b,h0,h1,rfl,rfl,h2,h3⟩
      · exact absurd h (by simp)
    · exact absurd h (by simp)
  · exact absurd h (by simp)
theorem extr_clo {s:St}{look:Nat→Ent}{i:Nat}{f:Hold}{qs:List (Nat×Ty×Bool)}{g:List Si}{v:Dens (.clo i f qs::g)}{rs:List Nat}{ms:List Mv}(h:extr s look (.clo i f qs::g)=some (v,rs,ms)) :
    ∃ caps,yds f (getAt .bad s.sl i)=caps∧ycE qs caps=true∧extr s look g=some (v,rs,ms):=by
  simp only[extr]at h
  split at h
  · rename_i h2;exact⟨_,rfl,h2,h⟩
  · exact absurd h (by simp)
theorem unwrap_wrap:∀ (d:Nat) (v p:AV),unwrapP d v=some p→v=wrapP d p∧∃ q l s,p = .po q l s
  | 0,v,p,h=>by
    cases v<;>simp[unwrapP]at h
    subst h;exact⟨rfl,_,_,_,rfl⟩
  | d + 1,v,p,h=>by
    cases v with
    | pr a b=>
      cases b with
      | data T x=>
        cases T with
        | unit=>
          simp only[unwrapP]at h
          obtain⟨h1,h2⟩:=unwrap_wrap d a p h
          exact⟨by rw[h1];rfl,h2⟩
        | _=>simp[unwrapP]at h
      | _=>simp[unwrapP]at h
    | _=>simp[unwrapP]at h
theorem capsA_wrap (q:Nat)(l:Ly)(s:List Stp):∀ d,capsA (wrapP d (.po q l s)) = .cons (.po q l s) .done
  | 0=>rfl
  | d+1=>capsA_wrap q l s d
theorem C_wrap [Gl]{E E':Env}{w w':World}{p p':AV}(h:∀ cs,C E w p cs→C E' w' p' cs):∀ d cs,C E w (wrapP d p) cs→C E' w' (wrapP d p') cs
  | 0,cs,hc=>h cs hc
  | d+1,cs,⟨c1,c2,e,h1,h2⟩=>⟨c1,c2,e,C_wrap h d c1 h1,h2⟩
theorem wrap_agg {p p':AV}(h:p.isAgg=p'.isAgg):∀ d,(wrapP d p).isAgg=(wrapP d p').isAgg
  | 0=>h
  | _+1=>rfl
theorem V_wrap [Gl]{E E':Env}{w w':World}{p p':AV}(ha:p.isAgg=p'.isAgg)(h:∀ cs,C E w p cs→C E' w' p' cs)(d:Nat)(x:Value)(hv:V E w (wrapP d p) x):V E' w' (wrapP d p') x:=by
  unfold V at hv ⊢
  rw[wrap_agg ha d]at hv
  split at hv
  · rename_i e;rw[if_pos e];obtain⟨c,hc,k⟩:=hv;exact⟨c,hc,C_wrap h d _ k⟩
  · rename_i e;rw[if_neg e];exact C_wrap h d _ hv
theorem capsA_unhold:∀ {h:Hold} {v caps:AV} {qs:List (Nat×Ty×Bool)},yds h v=caps→ycE qs caps=true→qs≠[]→capsA v=caps
  | .fn f,v,caps,qs,hu,hc,hne=>by
    cases v with
    | fn f' c=>
      simp only[yds]at hu
      split at hu
      · subst hu
        cases c with
        | cons a m=>
          cases a with
          | cp _=>cases qs<;>simp[ycE]at hc hne
          | _=>rfl
        | _=>cases qs<;>simp[ycE]at hc hne
      · subst hu;cases qs<;>simp[ycE]at hc hne
    | _=>simp only[yds]at hu;subst hu;cases qs<;>simp[ycE]at hc hne
  | .bd f,v,caps,qs,hu,hc,hne=>by
    cases v with
    | fb f' c=>
      simp only[yds]at hu
      split at hu
      · exact hu
      · subst hu;cases qs<;>simp[ycE]at hc hne
    | _=>simp only[yds]at hu;subst hu;cases qs<;>simp[ycE]at hc hne
  | .str d,v,caps,qs,hu,hc,hne=>by
    simp only[yds]at hu
    split at hu
    · rename_i p hp
      obtain⟨h1,q,l,s,h2⟩:=unwrap_wrap d v p hp
      subst h2 hu
      rw[h1];exact capsA_wrap q l s d
    · subst hu;cases qs<;>simp[ycE]at hc hne
  | .cp h,v,caps,qs,hu,hc,hne=>by
    cases v with
    | cp v=>simp only[yds]at hu;simp only[capsA];exact capsA_unhold hu hc hne
    | _=>simp only[yds]at hu;subst hu;cases qs<;>simp[ycE]at hc hne
  | .fn1 f h,v,caps,qs,hu,hc,hne=>by
    by_cases hv:∃ f' v',v = .fn f' (.cons (.cp v') .done)
    · obtain⟨f',v',rfl⟩:=hv
      simp only[yds]at hu
      split at hu
      · simp only[capsA];exact capsA_unhold hu hc hne
      · subst hu;cases qs<;>simp[ycE]at hc hne
    · have:yds (.fn1 f h) v = .bad:=by
        unfold yds
        split<;>first | rfl | (exact absurd ⟨_,_,rfl⟩ hv) | (rename_i e;exact absurd e (by simp)) | (rename_i e _;exact absurd e (by simp))
      rw[this]at hu;subst hu;cases qs<;>simp[ycE]at hc hne
theorem hold_moved [Gl] {E E':Env} {w:World} {qs:List (Nat×Ty×Bool)} (hSS:∀ b,E.S b→E'.S b):∀ (h:Hold) (v caps:AV),yds h v=caps→ycE qs caps=true→(∀ vs,C E w caps vs→C E' w (capsAV qs) vs) →
    v.isAgg=(holdAV h (capsAV qs)).isAgg∧∀ cs,C E w v cs→C E' w (holdAV h (capsAV qs)) cs
  | .fn f,v,caps,hv,hc,key=>by
    cases v with
    | fn f' c=>
      simp only[yds]at hv
      split at hv
      · rename_i e
        subst e hv
        refine⟨rfl,λcs h1 => ?_⟩
        obtain⟨vs,ev,h1⟩:=h1
        exact⟨vs,ev,key _ h1⟩
      · subst hv;cases qs<;>simp[ycE]at hc
    | _=>simp only[yds]at hv;subst hv;cases qs<;>simp[ycE]at hc
  | .bd f,v,caps,hv,hc,key=>by
    cases v with
    | fb f' c=>
      simp only[yds]at hv
      split at hv
      · rename_i e
        subst e hv
        refine⟨rfl,λcs h1 => ?_⟩
        obtain⟨vs,ev,h1⟩:=h1
        exact⟨vs,ev,key _ h1⟩
      · subst hv;cases qs<;>simp[ycE]at hc
    | _=>simp only[yds]at hv;subst hv;cases qs<;>simp[ycE]at hc
  | .cp h,v,caps,hv,hc,key=>by
    cases v with
    | cp v=>
      simp only[yds]at hv
      refine⟨rfl,λcs h1 => ?_⟩
      obtain⟨ad,cells,e,h1,h2,h3⟩:=h1
      exact⟨ad,cells,e,hSS _ h1,(hold_moved hSS h v caps hv hc key).2 _ h2,h3⟩
    | _=>simp only[yds]at hv;subst hv;cases qs<;>simp[ycE]at hc
  | .fn1 f h,v,caps,hv,hc,key=>by
    by_cases hw:∃ f' v',v = .fn f' (.cons (.cp v') .done)
    · obtain⟨f',v',rfl⟩:=hw
      simp only[yds]at hv
      split at hv
      · rename_i e
        subst e
        refine⟨rfl,λcs h1 => ?_⟩
        obtain⟨vs,ev,x,vs',e2,h1,h2⟩:=h1
        simp only[AV.isAgg,Bool.false_eq_true,if_false]at h1
        obtain⟨ad,cells,e,h1,h3,h4⟩:=h1
        refine⟨vs,ev,x,vs',e2,?_,h2⟩
        simp only[AV.isAgg,Bool.false_eq_true,if_false]
        exact⟨ad,cells,e,hSS _ h1,(hold_moved hSS h v' caps hv hc key).2 _ h3,h4⟩
      · subst hv;cases qs<;>simp[ycE]at hc
    · have:yds (.fn1 f h) v = .bad:=by
        unfold yds
        split<;>first | rfl | (exact absurd ⟨_,_,rfl⟩ hw) | (rename_i e;exact absurd e (by simp)) | (rename_i e _;exact absurd e (by simp))
      rw[this]at hv;subst hv;cases qs<;>simp[ycE]at hc
  | .str d, v,caps,hv,hc,key=>by
    simp only[yds]at hv
    split at hv
    · rename_i p hp
      obtain⟨e1,q,l',s',e3⟩:=unwrap_wrap d _ p hp
      subst hv e3
      cases qs with
      | nil=>simp[ycE]at hc
      | cons a qs=>
        obtain⟨r,T,b⟩:=a
        cases l' with
        | row e=>simp[ycE]at hc
        | mp _ _=>simp[ycE]at hc
        | box T'=>
          cases s' with
          | cons _ _=>simp[ycE]at hc
          | nil=>
            simp only[ycE,Bool.and_eq_true]at hc
            cases qs with
            | cons _ _=>simp[ycE]at hc
            | nil=>
              subst e1
              refine⟨wrap_agg (p := .po q (.box T') []) (p' := .po r (.box T) []) rfl d,λcs h1=>C_wrap (p := .po q (.box T') []) (p' := .po r (.box T) []) (λcs h2 => ?_) d cs h1⟩
              obtain⟨a0,ea,hu,hL⟩:=h2
              obtain⟨x,vs,e,k1,k2⟩:=key [.pointer (some a0)] ⟨_,[],rfl,(show C E w (.po q (.box T') []) [.pointer (some a0)] from ⟨a0,rfl,hu,hL⟩),rfl⟩
              injection e with e4 e5
              subst e4 ea
              exact k1
    · subst hv;cases qs<;>simp[ycE]at hc
theorem extr_names [Gl]{s:St}{look:Nat→Ent}:∀ (g:List Si) (v:Dens g) (rs:List Nat) (ms:List Mv),extr s look g=some (v,rs,ms)→ms.map Mv.name=ycB g
  | [],v,rs,ms,h=>by simp only[extr]at h;injection h with h;injection h with _ h;injection h with _ h;subst h;rfl
  | .val i sh::g,v,rs,ms,h=>by
    obtain⟨r1,r2,m1,m2,_,e2,h1,h2⟩:=extr_val h
    rw[e2,List.map_append,take_names sh _ _ _ _ h1,extr_names g _ _ _ h2];rfl
  | .ref i r T::g,v,rs,ms,h=>extr_names g _ _ _ (extr_ref h).2
  | .box r sh::g,v,rs,ms,h=>by
    obtain⟨c,r1,r2,m1,m2,_,_,e2,h1,h2⟩:=extr_box h
    rw[e2,List.map_cons,List.map_append,take_names sh _ _ _ _ h1,extr_names g _ _ _ h2];rfl
  | .bor i c r sh::g,v,rs,ms,h=>by
    obtain⟨q,u,r1,r2,m1,m2,_,_,_,e2,h1,h2⟩:=extr_bor h
    rw[e2,List.map_cons,List.map_append,take_names sh _ _ _ _ h1,extr_names g _ _ _ h2];rfl
  | .clo i f qs::g,v,rs,ms,h=>by obtain⟨_,_,_,h2⟩:=extr_clo h;exact extr_names g _ _ _ h2
theorem extr_live [Gl]{s:St}{look:Nat→Ent}:∀ (g:List Si) (v:Dens g) (rs:List Nat) (ms:List Mv),extr s look g=some (v,rs,ms)→∀ m∈ms,∀ q,m.src=some q→(look q).isLive=true
  | [],v,rs,ms,h,m,hm,q,hq=>by simp only[extr]at h;injection h with h;injection h with _ h;injection h with _ h;subst h;simp at hm
  | .val i sh::g,v,rs,ms,h,m,hm,q,hq=>by
    obtain⟨r1,r2,m1,m2,_,e2,h1,h2⟩:=extr_val h
    rw[e2]at hm
    rcases List.mem_append.1 hm with hm | hm
    · exact take_live sh _ _ _ _ h1 m hm q hq
    · exact extr_live g _ _ _ h2 m hm q hq
  | .ref i r T::g,v,rs,ms,h,m,hm,q,hq=>extr_live g _ _ _ (extr_ref h).2 m hm q hq
  | .box r sh::g,v,rs,ms,h,m,hm,q,hq=>by
    obtain⟨c,r1,r2,m1,m2,hl,_,e2,h1,h2⟩:=extr_box h
    rw[e2]at hm
    rcases List.mem_cons.1 hm with hm | hm
    · subst hm;simp only[Mv.src]at hq;injection hq with hq;subst hq;rw[hl];rfl
    · rcases List.mem_append.1 hm with hm | hm
      · exact take_live sh _ _ _ _ h1 m hm q hq
      · exact extr_live g _ _ _ h2 m hm q hq
  | .bor i c r sh::g,v,rs,ms,h,m,hm,q,hq=>by
    obtain⟨q',u,r1,r2,m1,m2,_,hl,_,e2,h1,h2⟩:=extr_bor h
    rw[e2]at hm
    rcases List.mem_cons.1 hm with hm | hm
    · subst hm;simp only[Mv.src]at hq;injection hq with hq;subst hq;rw[hl];rfl
    · rcases List.mem_append.1 hm with hm | hm
      · exact take_live sh _ _ _ _ h1 m hm q hq
      · exact extr_live g _ _ _ h2 m hm q hq
  | .clo i f qs::g,v,rs,ms,h,m,hm,q,hq=>by obtain⟨_,_,_,h2⟩:=extr_clo h;exact extr_live g _ _ _ h2 m hm q hq
theorem box_OREL [Gl]{E E1 E':Env}{look:Nat→Ent}{rs0:List Nat}(h:HREL P0 S0 E look w)(x1:Ext P0 E w E1 w)
    (hsh:∀ r∈rs0,∀ T l,look r = .live (.row T l)→∀ b,E.β r=some b→E1.S b) (hS:E'.S=E1.S) {sh:Sh} {u:AV} {x:Den sh.ty} {rs:List Nat} {ms:List Mv} {r q:Nat}
    (ht:take look sh u=some (x,rs,ms)) (hr:∀ r∈rs,r∈rs0) (hq0:∀ r∈sh.refs,MvOk E E' (.mv r r)) (hm:MvsOk E E' ms) (hl:look q = .live (.box sh.ty u)) (hq:MvOk E E' (.mv r q)):OREL E' w r (.box sh.ty (sh.av x)):=by
  have hent:=h.ent q
  rw[hl]at hent
  obtain⟨hu,b,cs,t,fr,k1,k2,k3,k4,k5,k6⟩:=hent
  obtain⟨g1,g2,g3⟩:=hq
  exact⟨b,cs,t,fr,g2.trans k1,g3.trans k2,k3,k4,av_ty sh x,take_C h x1 hsh hS sh u x rs ms _ ht hr hq0 hm k6⟩
theorem extr_heap [Gl]{E E1 E':Env}{s:St}{look:Nat→Ent}{rs0:List Nat}(h:HREL P0 S0 E look w)(x1:Ext P0 E w E1 w)
    (hsh:∀ r∈rs0,∀ T l,look r = .live (.row T l)→∀ b,E.β r=some b→E1.S b) (hS:E'.S=E1.S) {g0:List Si} (hbox:∀ r,ycG r g0=true→MvOk E E' (.mv r r)) :
    ∀ (g:List Si) (v:Dens g) (rs:List Nat) (ms:List Mv),extr s look g=some (v,rs,ms)→(∀ r∈rs,r∈rs0)→ydq g0 g=true→MvsOk E E' ms→∀ p∈ybT g v,∃ o,p.2 = .live o∧OREL E' w p.1 o
  | [],v,rs,ms,he,hr,hrf,hm,p,hp=>by simp[ybT]at hp
  | .val i sh::g,v,rs,ms,he,hr,hrf,hm,p,hp=>by
    obtain⟨r1,r2,m1,m2,e1,e2,h1,h2⟩:=extr_val he
    subst e1 e2
    simp only[ydq,Bool.and_eq_true]at hrf
    simp only[ybT,List.mem_append]at hp
    rcases hp with hp | hp
    · exact take_rows h x1 hS sh _ _ _ _ h1 hm.left p hp
    · exact extr_heap h x1 hsh hS hbox g _ _ _ h2 (λr hr'=>hr r (by simp[hr'])) hrf.2 hm.right p hp
  | .ref i r T::g,v,rs,ms,he,hr,hrf,hm,p,hp=>by
    simp only[ydq,Bool.and_eq_true]at hrf
    exact extr_heap h x1 hsh hS hbox g _ _ _ (extr_ref he).2 hr hrf.2 hm p hp
  | .box r sh::g,v,rs,ms,he,hr,hrf,hm,p,hp=>by
    obtain⟨c,r1,r2,m1,m2,hl,e1,e2,h1,h2⟩:=extr_box he
    subst e1 e2
    have hm':MvsOk E E' (m1++m2):=λm hm'=>hm m (List.mem_cons_of_mem _ hm')
    simp only[ydq,Bool.and_eq_true]at hrf
    simp only[ybT,List.mem_cons,List.mem_append]at hp
    rcases hp with hp | hp | hp
    · subst hp
      exact⟨_,rfl,box_OREL h x1 hsh hS h1 (λr hr'=>hr r (by simp[hr'])) (λr hr'=>hbox r (List.all_eq_true.1 hrf.1 r hr')) hm'.left hl (hm _ List.mem_cons_self)⟩
    · exact take_rows h x1 hS sh _ _ _ _ h1 hm'.left p hp
    · exact extr_heap h x1 hsh hS hbox g _ _ _ h2 (λr hr'=>hr r (by simp[hr'])) hrf.2 hm'.right p hp
  | .bor i c r sh::g,v,rs,ms,he,hr,hrf,hm,p,hp=>by
    obtain⟨q,u,r1,r2,m1,m2,_,hl,e1,e2,h1,h2⟩:=extr_bor he
    subst e1 e2
    have hm':MvsOk E E' (m1++m2):=λm hm'=>hm m (List.mem_cons_of_mem _ hm')
    simp only[ydq,Bool.and_eq_true]at hrf
    simp only[ybT,List.mem_cons,List.mem_append]at hp
    rcases hp with hp | hp | hp
    · subst hp
      exact⟨_,rfl,box_OREL h x1 hsh hS h1 (λr hr'=>hr r (by simp[hr'])) (λr hr'=>hbox r (List.all_eq_true.1 hrf.1 r hr')) hm'.left hl (hm _ List.mem_cons_self)⟩
    · exact take_rows h x1 hS sh _ _ _ _ h1 hm'.left p hp
    · exact extr_heap h x1 hsh hS hbox g _ _ _ h2 (λr hr'=>hr r (by simp[hr'])) hrf.2 hm'.right p hp
  | .clo i f qs::g,v,rs,ms,he,hr,hrf,hm,p,hp=>by
    obtain⟨_,_,_,h2⟩:=extr_clo he
    simp only[ydq,Bool.and_eq_true]at hrf
    exact extr_heap h x1 hsh hS hbox g _ _ _ h2 hr hrf.2 hm p hp
theorem hasBox_mv [Gl]{s:St}{look:Nat→Ent}{r:Nat}:∀ (g:List Si) (v:Dens g) (rs:List Nat) (ms:List Mv),extr s look g=some (v,rs,ms)→ycG r g=true → .mv r r∈ms
  | [],v,rs,ms,he,hb=>by simp[ycG]at hb
  | .val i sh::g,v,rs,ms,he,hb=>by
    obtain⟨r1,r2,m1,m2,e1,e2,h1,h2⟩:=extr_val he
    rw[e2];exact List.mem_append.2 (.inr (hasBox_mv g _ _ _ h2 hb))
  | .ref i r' T::g,v,rs,ms,he,hb=>hasBox_mv g _ _ _ (extr_ref he).2 hb
  | .box r' sh::g,v,rs,ms,he,hb=>by
    obtain⟨c,r1,r2,m1,m2,hl,e1,e2,h1,h2⟩:=extr_box he
    simp only[ycG,Bool.or_eq_true]at hb
    rw[e2]
    rcases hb with hb | hb
    · have:r'=r:=by simpa using hb
      subst this;exact List.mem_cons_self
    · exact List.mem_cons_of_mem _ (List.mem_append.2 (.inr (hasBox_mv g _ _ _ h2 hb)))
  | .bor i c r' sh::g,v,rs,ms,he,hb=>by
    obtain⟨q,u,r1,r2,m1,m2,_,hl,e1,e2,h1,h2⟩:=extr_bor he
    rw[e2];exact List.mem_cons_of_mem _ (List.mem_append.2 (.inr (hasBox_mv g _ _ _ h2 hb)))
  | .clo i f qs::g,v,rs,ms,he,hb=>by obtain⟨_,_,_,h2⟩:=extr_clo he;exact hasBox_mv g _ _ _ h2 hb
theorem hasBor_mv [Gl] {s:St} {look:Nat→Ent} {i j r:Nat}:∀ (g:List Si) (v:Dens g) (rs:List Nat) (ms:List Mv),extr s look g=some (v,rs,ms)→hasBor i j r g=true→∃ q T,locAV s.sl i (some j) = .po q (.box T) [] ∧ .mv r q∈ms
  | [],v,rs,ms,he,hb=>by simp[hasBor]at hb
  | .val i' sh::g,v,rs,ms,he,hb=>by
    obtain⟨r1,r2,m1,m2,e1,e2,h1,h2⟩:=extr_val he
    obtain⟨q,T,k1,k2⟩:=hasBor_mv g _ _ _ h2 hb
    exact⟨q,T,k1,by rw[e2];exact List.mem_append.2 (.inr k2)⟩
  | .ref i' r' T::g,v,rs,ms,he,hb=>hasBor_mv g _ _ _ (extr_ref he).2 hb
  | .box r' sh::g,v,rs,ms,he,hb=>by
    obtain⟨c,r1,r2,m1,m2,hl,e1,e2,h1,h2⟩:=extr_box he
    obtain⟨q,T,k1,k2⟩:=hasBor_mv g _ _ _ h2 hb
    exact⟨q,T,k1,by rw[e2];exact List.mem_cons_of_mem _ (List.mem_append.2 (.inr k2))⟩
  | .bor i' c r' sh::g,v,rs,ms,he,hb=>by
    obtain⟨q,u,r1,r2,m1,m2,hloc,hl,e1,e2,h1,h2⟩:=extr_bor he
    have tl:hasBor i j r g=true→∃ q T,locAV s.sl i (some j) = .po q (.box T) [] ∧ .mv r q∈ms:=λhb=>by
      obtain⟨q,T,k1,k2⟩:=hasBor_mv g _ _ _ h2 hb
      exact⟨q,T,k1,by rw[e2];exact List.mem_cons_of_mem _ (List.mem_append.2 (.inr k2))⟩
    cases c with
    | none=>exact tl hb
    | some j'=>
      simp only[hasBor,Bool.or_eq_true,Bool.and_eq_true,beq_iff_eq]at hb
      rcases hb with ⟨⟨b1,b2⟩,b3⟩ | hb
      · subst b1 b2 b3
        exact⟨q,_,hloc,by rw[e2];exact List.mem_cons_self⟩
      · exact tl hb
  | .clo i' f qs::g,v,rs,ms,he,hb=>by obtain⟨_,_,_,h2⟩:=extr_clo he;exact hasBor_mv g _ _ _ h2 hb
theorem SREL.slot [Gl]{E:Env}{w:World}{sl:List AV}{tmps:Array Value}(k:SREL E w sl tmps)(i:Nat)(v:AV)(hv:V E w v (tmps.getD i undef)):SREL E w (setAt sl i v) tmps:=by
  refine⟨by rw[ybC,k.len],λt => ?_⟩
  rw[ybI]
  split
  · rename_i h;rw[h.1];exact hv
  · exact k.val t
theorem po_moved [Gl]{E E':Env}{r q:Nat}{T:Ty}{x:Value}(h:V E w (.po q (.box T) []) x)(hm:MvOk E E' (.mv r q)):V E' w (.po r (.box T) []) x:=by
  rw[V_one rfl]at h ⊢
  obtain⟨a,ea,hu,hL⟩:=h
  obtain⟨g1,g2,g3⟩:=hm
  exact⟨a,ea,g1,λL hL'=>by rw[g2];exact hL L (g3 ▸ hL')⟩
theorem clo_moved [Gl] {E E':Env} {sl:List AV} {i:Nat} {caps0:AV} {g0:List Si} (hi:capsA (getAt .bad sl i)=caps0) (hbox:∀ r,ycG r g0=true→MvOk E E' (.mv r r))
    (hbor:∀ j r,hasBor i j r g0=true→∃ q T,locAV sl i (some j) = .po q (.box T) []∧MvOk E E' (.mv r q)) :
    ∀ (qs:List (Nat×Ty×Bool)) (j:Nat) (caps:AV) (vs:List Value),(∀ k,nthAV caps k=nthAV caps0 (j+k))→ycE qs caps=true→cloRefs g0 i j qs=true→C E w caps vs→C E' w (capsAV qs) vs
  | [],j,caps,vs,hn,hc,hr,hv=>by
    cases caps<;>simp[ycE]at hc
    exact hv
  | (r, T, b) :: qs,j,caps,vs,hn,hc,hr,hv=>by
    cases caps with
    | cons a m=>
      cases a with
      | po q l p=>
        cases l with
        | row e=>simp[ycE]at hc
        | mp _ _=>simp[ycE]at hc
        | box T'=>
          cases p with
          | cons _ _=>simp[ycE]at hc
          | nil =>
            simp only[ycE,Bool.and_eq_true,decide_eq_true_eq]at hc
            obtain⟨⟨hT,hb⟩,hc⟩:=hc
            subst hT
            simp only[cloRefs,Bool.and_eq_true]at hr
            obtain⟨hr1,hr2⟩:=hr
            obtain⟨x,vs',e,h1,h2⟩:=hv
            subst e
            have hmv:MvOk E E' (.mv r q):=by
              cases b with
              | false=>
                have:q=r:=by simpa using hb
                subst this
                exact hbox _ (by simpa using hr1)
              | true=>
                obtain⟨q',T2,k1,k2⟩:=hbor j r (by simpa using hr1)
                have h0:=hn 0
                simp only[nthAV,Nat.add_zero]at h0
                simp only[locAV,hi,← h0,Option.getD_some]at k1
                injection k1 with k1
                subst k1
                exact k2
            refine⟨x,vs',rfl,?_,clo_moved hi hbox hbor qs (j+1) m vs' (λk => ?_) hc hr2 h2⟩
            · have h1':V E w (.po q (.box T') []) x:=h1
              exact po_moved h1' hmv
            · have:=hn (k+1)
              simp only[nthAV]at this
              rw[this,show j+(k+1)=j+1+k by omega]
      | _=>simp[ycE]at hc
    | _=>simp[ycE]at hc
theorem extr_slots [Gl] {E E1 E':Env} {s:St} {look:Nat→Ent} {tmps:Array Value} {rs0:List Nat} (h:HREL P0 S0 E look w) (hs:SREL E w s.sl tmps) (x1:Ext P0 E w E1 w)
    (hsh:∀ r∈rs0,∀ T l,look r = .live (.row T l)→∀ b,E.β r=some b→E1.S b) (hS:E'.S=E1.S) {g0:List Si} (hbox:∀ r,ycG r g0=true→MvOk E E' (.mv r r))
    (hbor:∀ i j r,hasBor i j r g0=true→∃ q T,locAV s.sl i (some j) = .po q (.box T) []∧MvOk E E' (.mv r q)) {l:List AV} (hl:SREL E' w l tmps) :
    ∀ (g:List Si) (v:Dens g) (rs:List Nat) (ms:List Mv),extr s look g=some (v,rs,ms)→(∀ r∈rs,r∈rs0)→ydq g0 g=true→MvsOk E E' ms→SREL E' w (ydj g v l) tmps
  | [],v,rs,ms,he,hr,hb,hm=>hl
  | .val i sh::g,v,rs,ms,he,hr,hb,hm=>by
    obtain⟨r1,r2,m1,m2,e1,e2,h1,h2⟩:=extr_val he
    subst e1 e2
    simp only[ydq,Bool.and_eq_true,List.all_eq_true]at hb
    have ih:=extr_slots h hs x1 hsh hS hbox hbor hl g _ _ _ h2 (λr hr'=>hr r (by simp[hr'])) hb.2 hm.right
    exact ih.slot i _ (take_V h x1 hsh hS h1 (λr hr'=>hr r (by simp[hr'])) (λr hr'=>hbox r (hb.1 r hr')) hm.left (hs.val i))
  | .ref i r T::g,v,rs,ms,he,hr,hb,hm=>by
    obtain⟨hv,e2⟩:=extr_ref he
    unfold ydq at hb
    rw[Bool.and_eq_true]at hb
    have ih:=extr_slots h hs x1 hsh hS hbox hbor hl g v _ _ e2 hr hb.2 hm
    refine ih.slot i _ ?_
    have h1:=hs.val i
    rw[hv]at h1
    exact po_moved h1 (hbox r hb.1)
  | .box r sh::g,v,rs,ms,he,hr,hb,hm=>by
    obtain⟨c,r1,r2,m1,m2,hl1,e1,e2,h1,h2⟩:=extr_box he
    subst e1 e2
    have hm':MvsOk E E' (m1++m2):=λm hm'=>hm m (List.mem_cons_of_mem _ hm')
    simp only[ydq,Bool.and_eq_true]at hb
    exact extr_slots h hs x1 hsh hS hbox hbor hl g _ _ _ h2 (λr hr'=>hr r (by simp[hr'])) hb.2 hm'.right
  | .bor i c r sh::g,v,rs,ms,he,hr,hb,hm=>by
    obtain⟨q,u,r1,r2,m1,m2,hloc,hl1,e1,e2,h1,h2⟩:=extr_bor he
    subst e1 e2
    have hm':MvsOk E E' (m1++m2):=λm hm'=>hm m (List.mem_cons_of_mem _ hm')
    simp only[ydq,Bool.and_eq_true]at hb
    have ih:=extr_slots h hs x1 hsh hS hbox hbor hl g _ _ _ h2 (λr hr'=>hr r (by simp[hr'])) hb.2 hm'.right
    cases c with
    | some c=>exact ih
    | none=>
      refine ih.slot i _ ?_
      have h3:=hs.val i
      simp only[locAV]at hloc
      rw[hloc]at h3
      exact po_moved h3 (hm _ List.mem_cons_self)
  | .clo i f qs::g,v,rs,ms,he,hr,hb,hm=>by
    obtain⟨caps,hv,hc,e2⟩:=extr_clo he
    unfold ydq at hb
    rw[Bool.and_eq_true]at hb
    have ih:=extr_slots h hs x1 hsh hS hbox hbor hl g v _ _ e2 hr hb.2 hm
    refine ih.slot i _ ?_
    have h1:=hs.val i
    have key:∀ vs,C E w caps vs→C E' w (capsAV qs) vs:=λvs h1=>by
      by_cases hne:qs=[]
      · subst hne
        cases caps<;>simp[ycE]at hc
        exact h1
      · exact clo_moved (capsA_unhold hv hc hne) hbox (hbor i) qs 0 caps vs (λk=>by rw[Nat.zero_add]) hc hb.1 h1
    obtain⟨m1,m2⟩:=hold_moved (λb hb=>hS ▸ x1.s b hb) f _ caps hv hc key
    unfold V at h1 ⊢
    rw[m1]at h1
    split at h1
    · rename_i ha;rw[if_pos ha];obtain⟨c,e,h1⟩:=h1;exact⟨c,e,m2 _ h1⟩
    · rename_i ha;rw[if_neg ha];exact m2 _ h1
def findM (r:Nat):List Mv→Option Mv
  | []=>none
  | m::ms=>if r==m.name then some m else findM r ms
theorem findM_mem {r:Nat}{m:Mv}:∀ {ms:List Mv},findM r ms=some m→m∈ms∧m.name=r
  | [],h=>by simp[findM]at h
  | m'::ms,h=>by
    simp only[findM]at h
    split at h
    · rename_i hh
      injection h with h;subst h
      exact⟨List.mem_cons_self,by have:=beq_iff_eq.1 hh;exact this.symm⟩
    · exact⟨List.mem_cons_of_mem _ (findM_mem h).1,(findM_mem h).2⟩
theorem findM_none {r:Nat}:∀ {ms:List Mv},r ∉ ms.map Mv.name→findM r ms=none
  | [],_=>rfl
  | m::ms,h=>by
    simp only[List.map_cons,List.mem_cons,not_or]at h
    simp only[findM]
    rw[if_neg (by simpa using h.1)]
    exact findM_none h.2
theorem findM_self [Gl]{m:Mv}:∀ {ms:List Mv},nodup (ms.map Mv.name)=true→m∈ms→findM m.name ms=some m
  | [],_,h=>by simp at h
  | m'::ms,hn,h=>by
    obtain⟨h1,h2⟩:=nodup_cons hn
    simp only[findM]
    rcases List.mem_cons.1 h with h | h
    · subst h;simp
    · have:m.name≠m'.name:=λe=>h1 (e ▸ List.mem_map.2 ⟨m,h,rfl⟩)
      rw[if_neg (by simpa using this)]
      exact findM_self h2 h
theorem ydJ {m:Mv}{q:Nat}:∀ {ms:List Mv},m∈ms→m.src=some q→q∈srcs ms
  | [],h,_=>by simp at h
  | m'::ms,h,hq=>by
    rcases List.mem_cons.1 h with h | h
    · subst h
      cases m with
      | mv r q'=>simp only[Mv.src]at hq;injection hq with hq;subst hq;simp[srcs]
      | cutm r q' k=>simp only[Mv.src]at hq;injection hq with hq;subst hq;simp[srcs]
      | nilm r e=>simp[Mv.src]at hq
    · have:=ydJ h hq
      cases m'<;>simp[srcs,this]
theorem srcs_inv {q:Nat}:∀ {ms:List Mv},q∈srcs ms→∃ m∈ms,m.src=some q
  | [],h=>by simp[srcs]at h
  | .mv r q'::ms,h=>by
    simp only[srcs,List.mem_cons]at h
    rcases h with rfl | h
    · exact⟨_,List.mem_cons_self,rfl⟩
    · obtain⟨m,h1,h2⟩:=srcs_inv h;exact⟨m,List.mem_cons_of_mem _ h1,h2⟩
  | .cutm r q' k::ms,h=>by
    simp only[srcs,List.mem_cons]at h
    rcases h with rfl | h
    · exact⟨_,List.mem_cons_self,rfl⟩
    · obtain⟨m,h1,h2⟩:=srcs_inv h;exact⟨m,List.mem_cons_of_mem _ h1,h2⟩
  | .nilm r e::ms,h=>by
    obtain⟨m,h1,h2⟩:=srcs_inv (ms:=ms) h;exact⟨m,List.mem_cons_of_mem _ h1,h2⟩
theorem srcs_inj [Gl]{q:Nat}{m m':Mv}:∀ {ms:List Mv},nodup (srcs ms)=true→m∈ms→m'∈ms→m.src=some q→m'.src=some q→m=m'
  | [],_,h,_,_,_=>by simp at h
  | a :: ms,hn,h,h',hq,hq'=>by
    have hn2:nodup (srcs ms)=true:=by
      cases a with
      | mv r q'=>exact (nodup_cons hn).2
      | cutm r q' k=>exact (nodup_cons hn).2
      | nilm r e=>exact hn
    have hnot:∀ q',a.src=some q'→q' ∉ srcs ms:=by
      intro q' ha
      cases a with
      | mv r q''=>simp only[Mv.src]at ha;injection ha with ha;subst ha;exact (nodup_cons hn).1
      | cutm r q'' k=>simp only[Mv.src]at ha;injection ha with ha;subst ha;exact (nodup_cons hn).1
      | nilm r e=>simp[Mv.src]at ha
    rcases List.mem_cons.1 h with k | k
    · rcases List.mem_cons.1 h' with k' | k'
      · rw[k,k']
      · exact absurd (ydJ (ms:=ms) k' hq') (hnot _ (k ▸ hq))
    · rcases List.mem_cons.1 h' with k' | k'
      · exact absurd (ydJ (ms:=ms) k hq) (hnot _ (k' ▸ hq'))
      · exact srcs_inj hn2 k k' hq hq'
def cutE (E:Env) (S:Nat→Prop) (ms:List Mv):Env:=
  { β := λr=>match findM r ms with
      | some (.mv _ q)=>E.β q
      | some (.cutm _ q _)=>E.β q
      | _=>none
    L := λr=>match findM r ms with
      | some (.mv _ q)=>E.L q
      | some (.cutm _ q k)=>cutL k (E.L q)
      | some (.nilm _ e)=>some ⟨.row e,0,0⟩
      | none=>none
    U:=λr=>r∈ms.map Mv.name
    S:=S }
theorem cutE_ok [Gl]{E:Env}{S:Nat→Prop}{ms:List Mv}(hn:nodup (ms.map Mv.name)=true):MvsOk E (cutE E S ms) ms:=by
  intro m hm
  have hf:=findM_self hn hm
  have hu:m.name∈ms.map Mv.name:=List.mem_map.2 ⟨m,hm,rfl⟩
  cases m with
  | mv r q=>exact⟨hu,by simp only[Mv.name]at hf;simp only[cutE,hf],by simp only[Mv.name]at hf;simp only[cutE,hf]⟩
  | cutm r q k=>exact⟨hu,by simp only[Mv.name]at hf;simp only[cutE,hf],by simp only[Mv.name]at hf;simp only[cutE,hf]⟩
  | nilm r e=>exact⟨hu,by simp only[Mv.name]at hf;simp only[cutE,hf],by simp only[Mv.name]at hf;simp only[cutE,hf]⟩
theorem cutE_β [Gl]{E:Env}{S:Nat→Prop}{ms:List Mv}{r b:Nat}(h:(cutE E S ms).β r=some b):∃ m q,m∈ms∧m.name=r∧m.src=some q∧E.β q=some b:=by
  simp only[cutE]at h
  split at h
  · rename_i r' q hf;exact⟨_,q,(findM_mem hf).1,(findM_mem hf).2,rfl,h⟩
  · rename_i r' q k hf;exact⟨_,q,(findM_mem hf).1,(findM_mem hf).2,rfl,h⟩
  · exact absurd h (by simp)
theorem cut_heap [Gl]{E E1:Env}{s:St}{look look1:Nat→Ent}(h:HREL P0 S0 E look w)(h1:HREL P0 S0 E1 look1 w)(x1:Ext P0 E w E1 w)(hβ:∀ r,E1.β r=E.β r){rs0:List Nat}
    (hsh:∀ r∈rs0,∀ T l,look r = .live (.row T l)→∀ b,E.β r=some b→E1.S b)
    {P1 S1:Nat→Prop} (hp1:∀ b,P1 b→b<w.heap.size) (hs1:∀ b,E1.S b→S1 b∨¬ P1 b)
    {g:List Si} {v:Dens g} {rs:List Nat} {ms:List Mv} (he:extr s look g=some (v,rs,ms)) (hr:∀ r∈rs,r∈rs0) (hq:∀ q∈srcs ms,look1 q=look q)
    (hp2:∀ q∈srcs ms,∀ b,(look q).isLive=true→E.β q=some b→¬ P1 b) (hn:nodup (ycB g)=true) (hnq:nodup (srcs ms)=true) (hrf:ydq g g=true) :
    HREL P1 S1 (cutE E E1.S ms) (updL (ybT g v) λ_ => .un) w∧MvsOk E (cutE E E1.S ms) ms:=by
  have hnm:=extr_names g v rs ms he
  have hmk:MvsOk E (cutE E E1.S ms) ms:=cutE_ok (by rw[hnm];exact hn)
  have hheap:=extr_heap h x1 hsh (E':=cutE E E1.S ms) rfl (g0:=g) (λr hb=>hmk _ (hasBox_mv g v rs ms he hb)) g v rs ms he hr hrf hmk
  have hlv:=extr_live g v rs ms he
  refine⟨⟨λr => ?_,?_,?_,h1.sIn,hp1,hs1,h1.gl⟩,hmk⟩
  · by_cases hrn:r∈ycB g
    · obtain⟨e,hf⟩:=findW_some (q:=r) (l:=ybT g v) (by rw[yd3];exact hrn)
      obtain⟨o,ho1,ho2⟩:=hheap _ (findW_mem hf)
      rw[yc8,hf]
      simp only at ho1 ho2 ⊢
      rw[ho1]
      exact⟨by simp only[cutE,hnm];exact hrn,ho2⟩
    · rw[look_none hrn]
      refine⟨by simp only[cutE,hnm];exact hrn,?_⟩
      simp only[cutE]
      rw[findM_none (by rw[hnm];exact hrn)]
  · intro r r' b _ _ hb hb'
    obtain⟨m,q,k1,k2,k3,k4⟩:=cutE_β hb
    obtain⟨m',q',k1',k2',k3',k4'⟩:=cutE_β hb'
    have:q=q':=h.inj q q' b (hlv m k1 q k3) (hlv m' k1' q' k3') k4 k4'
    subst this
    have:=srcs_inj hnq k1 k1' k3 k3'
    rw[← k2,← k2',this]
  · intro r b _ hb
    obtain⟨m,q,k1,k2,k3,k4⟩:=cutE_β hb
    have hqs:=ydJ k1 k3
    have hl:=hlv m k1 q k3
    exact⟨(h1.sep q b (by rw[hq q hqs];exact hl) ((hβ q).trans k4)).1,hp2 q hqs b hl k4⟩
theorem yc1 [Gl]:∀ (g:List Si) (v:Dens g) (l:List AV),(ydj g v l).length=l.length
  | [],_,_=>rfl
  | .val i sh::g,v,l=>by simp only[ydj,ybC];exact yc1 g v.2 l
  | .ref i r T::g,v,l=>by simp only[ydj,ybC];exact yc1 g v l
  | .box r sh::g,v,l=>yc1 g v.2 l
  | .bor i none r sh::g,v,l=>by simp only[ydj,ybC];exact yc1 g v.2 l
  | .bor i (some _) r sh::g,v,l=>yc1 g v.2 l
  | .clo i f qs::g,v,l=>by simp only[ydj,ybC];exact yc1 g v l
theorem frame_len [Gl](n:Nat)(g:List Si)(v:Dens g):(frameOf n g v).sl.length=n:=by
  unfold frameOf
  rw[yc1];simp
theorem replicate_bad (n t:Nat):getAt AV.bad (List.replicate n .bad) t = .bad:=by
  induction n generalizing t with
  | zero=>rfl
  | succ n ih=>cases t with
    | zero=>rfl
    | succ t=>exact ih t
theorem cut_ok [Gl] {R:Type} {r:R} {bn:List Nat} {g:List Si} {s:St} {k:Dens g→Option R} (h:cutTo bn g s k=some r) :
    ∃ v,k v=some r∧∀ P0 S0 E a w,REL P0 S0 E s a w→∃ E',REL P0 S0 E' (frameOf s.sl.length g v) a w∧Pub bn P0 E w E' w:=by
  unfold cutTo at h
  split at h
  · rename_i hok
    split at h
    · exact absurd h (by simp)
    · rename_i v rs ms he
      split at h
      · rename_i hc
        obtain⟨hc1,hc2⟩:=hc
        refine⟨v,h,λP0 S0 E a w hr => ?_⟩
        unfold okSig at hok
        simp only[Bool.and_eq_true]at hok
        obtain⟨⟨hn,hrf⟩,hbn⟩:=hok
        obtain⟨E1,h1,x1,b1,l1,s1⟩:=HREL.shuts (look:=s.look) rs E s.look hr.h (λr _ => .inl rfl)
        have hsame:∀ q∈srcs ms,updL (Va.shut s.look rs) s.look q=s.look q:=by
          intro q hq
          rw[yc8]
          have:q ∉ (Va.shut s.look rs).map Prod.fst:=by
            intro hh
            obtain⟨⟨q',e⟩,h2,h3⟩:=List.mem_map.1 hh
            simp only at h3;subst h3
            exact ybJ hc2 hq (shut_mem rs h2).1
          rw[ydA this]
        obtain⟨g1,g5⟩:=cut_heap hr.h h1 x1 b1 s1 h1.pIn h1.s0 he (λ_ h=>h) hsame (λq _ b hl hb=>(hr.h.sep q b hl hb).2) hn hc1 hrf
        have hbx:∀ r,ycG r g=true→MvOk E (cutE E E1.S ms) (.mv r r):=λr hb=>g5 _ (hasBox_mv g v rs ms he hb)
        refine⟨cutE E E1.S ms,⟨g1,?_,hr.d⟩,⟨λb hb=>x1.s b hb,.refl _ _,.refl _ _,λq hq hu => ?_⟩⟩
        · refine extr_slots (E':=cutE E E1.S ms) hr.h hr.s x1 s1 rfl hbx (λi j r hb => ?_) ?_ g v rs ms he (λ_ h=>h) hrf g5
          · obtain⟨q,T,k1,k2⟩:=hasBor_mv g v rs ms he hb
            exact⟨q,T,k1,g5 _ k2⟩
          · exact⟨by simp[hr.s.len],λt=>by rw[replicate_bad];exact .bad⟩
        · obtain⟨k1,k2,k3⟩:=hbx q (List.all_eq_true.1 hbn q hq)
          exact⟨k1,.inr ⟨k3,k2⟩⟩
      · exact absurd h (by simp)
  · exact absurd h (by simp)
end
end Go.Va
