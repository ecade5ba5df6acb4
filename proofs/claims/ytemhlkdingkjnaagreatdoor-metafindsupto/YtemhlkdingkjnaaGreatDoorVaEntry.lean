/-
  Va, part 28: a proved function as a row of the table of callees.
-/
import Derived.Test.YtemhlkdingkjnaaGreatDoorVaFn
set_option linter.unusedVariables false
set_option linter.unusedSimpArgs false
namespace Go.Va
open Go
def Ty.flat:Ty→Bool
  | .slice _=>false
  | .smap=>false
  | .arr _ e=>e.flat
  | .pair a b=>a.flat&&b.flat
  | _=>true
def Sh.flat:Sh→Bool
  | .d T=>T.flat
  | .r _ e=>e.flat
  | .p a b=>a.flat&&b.flat
  | .al _ _=>true
  | .m _ K V=>K.flat&&V.flat
def noQ:List Si→Bool
  | []=>true
  | .val _ sh::g=>sh.refs.isEmpty&&noQ g
  | .box _ sh::g=>sh.refs.isEmpty&&noQ g
  | .bor _ _ _ sh::g=>sh.refs.isEmpty&&noQ g
  | _::g=>noQ g
def ybo:List Si→Bool
  | []=>true
  | .val _ sh::g=>sh.flat&&ybo g
  | .ref _ _ _::g=>ybo g
  | .box _ sh::g=>sh.flat&&ybo g
  | .bor _ _ _ sh::g=>sh.flat&&ybo g
  | .clo _ _ _::g=>ybo g
def nmN (dst c:Nat):Nat:=dst+1000000*c
def bnd {α β:Type}(x:Option α)(k:α→Option β):Option β:=
  match x with
  | none=>none
  | some u=>k u
def Ent.isUn:Ent→Bool
  | .un=>true
  | _=>false
def killL (bn:List Nat):List Mv→List Nat
  | []=>[]
  | m::ms=>match m.src with
    | some q=>if bn.elem m.name then killL bn ms else q::killL bn ms
    | none=>killL bn ms
def borL (bn:List Nat):List Mv→List (Nat×Nat)
  | []=>[]
  | .mv c q::ms=>if bn.elem c then (q,c)::borL bn ms else borL bn ms
  | _::ms=>borL bn ms
def boxesR (ρ:Nat→Nat):(g:List Si)→Dens g→List (Nat×Obj')
  | [],_=>[]
  | .val _ _::g,v=>boxesR ρ g v.2
  | .ref _ _ _::g,v=>boxesR ρ g v
  | .box c sh::g,v=>(c,.box sh.ty (sh.avR ρ v.1))::boxesR ρ g v.2
  | .bor _ _ _ _::g,v=>boxesR ρ g v.2
  | .clo _ _ _::g,v=>boxesR ρ g v
def ydO (ρ:Nat→Nat):(g:List Si)→Dens g→List (Nat×Ent)
  | [],_=>[]
  | .val _ sh::g,v=>sh.rowsR ρ v.1++ydO ρ g v.2
  | .ref _ _ _::g,v=>ydO ρ g v
  | .box _ sh::g,v=>sh.rowsR ρ v.1++ydO ρ g v.2
  | .bor _ _ c sh::g,v=>(ρ c,.live (.box sh.ty (sh.avR ρ v.1)))::(sh.rowsR ρ v.1++ydO ρ g v.2)
  | .clo _ _ _::g,v=>ydO ρ g v
def yaW:List Si→List Nat
  | []=>[]
  | .val _ sh::g=>sh.names++yaW g
  | .ref _ _ _::g=>yaW g
  | .box _ sh::g=>sh.names++yaW g
  | .bor _ _ c sh::g=>c::(sh.names++yaW g)
  | .clo _ _ _::g=>yaW g
def findB (c:Nat):List (Nat×Obj')→Option Obj'
  | []=>none
  | (c',o)::l=>if c==c' then some o else findB c l
def backW (bs:List (Nat×Obj')):List (Nat×Nat)→List (Nat×Ent)
  | []=>[]
  | (q,c)::l=>match findB c bs with
    | some o=>(q,.live o)::backW bs l
    | none=>backW bs l
def sigsOk (as:List Ai)(os:List (Nat×Oi)):Bool:=
  nodup (ycB (inSig 0 as))&&nodup (ycB (gOut as os))&&ydq (inSig 0 as) (inSig 0 as)&&ydq (gOut as os) (gOut as os)&&noQ (gOut as os)&&(bnOf 0 as).all λr=>ycG r (gOut as os)
def wnOf (flat:Bool)(look:Nat→Ent)(rs:List Nat)(bn:List Nat)(ms:List Mv)(ρ:Nat→Nat)(g:List Si)(u:Dens g):List (Nat×Ent):=
  (if flat=true then [] else shut look rs)++((killL bn ms).map (λq=>(q,.dead))++(backW (boxesR ρ g u) (borL bn ms)++ydO ρ g u))
def sgm (ms:List Mv)(r:Nat):Nat:=
  match findM r ms with
  | some (.mv _ q)=>q
  | _=>r
def yaw (fid:Nat) (as:List Ai) (os:List (Nat×Oi)) (f:DIn as→Option (DOut as os)):Entry:={
  fid:=fid
  run := λ_ dst args look k=>
    if args.length=as.length∧sigsOk as os=true then
      match extr ⟨args,[]⟩ look (inSig 0 as) with
      | none=>none
      | some (v,rs,ms)=>
        if nodup (srcs ms)=true∧meets (srcs ms) rs=false then
          bnd (f v) λu=>
            if ((yaW (gOut as os)).all λc=>(look (nmN dst c)).isUn)=true then
              k (oneAV (outAVs (nmN dst) (sgm ms) 0 os (boxSig 0 as) u)) (rs++srcs ms++(yaW (gOut as os)).map (nmN dst))
                (wnOf (ybo (gOut as os)) look rs (bnOf 0 as) ms (nmN dst) (gOut as os) u)
            else none
        else none
    else none }
section
variable {P:Program} {P0 S0:Nat→Prop} {w:World}
theorem Rd_flat {S S':Nat→Prop}{w w':World}:∀ (T:Ty) (x:Den T) (cs:List Value),T.flat=true→Rd S w T x cs→Rd S' w' T x cs
  | .int _,_,_,_,k=>k
  | .bool,_,_,_,k=>k
  | .str,_,_,_,k=>k
  | .slice e,_,_,h,_=>by simp[Ty.flat]at h
  | .arr n e,l,cs,h,k=>⟨k.1,RdL.mono (λx c=>Rd_flat e x c h) _ _ k.2⟩
  | .pair a b,x,cs,h,k=>by
    unfold Ty.flat at h
    rw[Bool.and_eq_true]at h
    obtain⟨c1,c2,e,h1,h2⟩:=k
    exact⟨c1,c2,e,Rd_flat a _ _ h.1 h1,Rd_flat b _ _ h.2 h2⟩
  | .unit,_,_,_,k=>k
  | .opq _,_,_,_,k=>k
  | .smap,_,_,h,_=>by simp[Ty.flat]at h
  | .mapT _ _,_,_,_,k=>k
theorem findW_append (r:Nat):∀ (a b:List (Nat×Ent)),findW r (a++b)=match findW r a with | some e=>some e | none=>findW r b
  | [],b=>rfl
  | (q,e)::a,b=>by
    simp only[List.cons_append,findW]
    split
    · rfl
    · exact findW_append r a b
theorem findW_no {r:Nat}:∀ {l:List (Nat×Ent)},findW r l=none→r ∉ l.map Prod.fst
  | [],_,hh=>by simp at hh
  | (q,e)::l,h,hh=>by
    simp only[findW]at h
    split at h
    · exact absurd h (by simp)
    · rename_i hne
      simp only[List.map_cons,List.mem_cons]at hh
      rcases hh with hh | hh
      · exact hne (by simpa using hh)
      · exact findW_no h hh
theorem heapOf_mem [Gl] {g:List Si} {v:Dens g} {c:Nat} {e:Ent} (hn:nodup (ycB g)=true) (h:(c,e)∈ybT g v):ydh g v c=e:=by
  have key:∀ (l:List (Nat×Ent)),nodup (l.map Prod.fst)=true→(c,e)∈l→findW c l=some e:=by
    intro l
    induction l with
    | nil=>intro _ h;simp at h
    | cons x l ih=>
      obtain⟨q,e'⟩:=x
      intro hn h
      obtain⟨h1,h2⟩:=nodup_cons hn
      simp only[findW]
      rcases List.mem_cons.1 h with h | h
      · injection h with h3 h4;subst h3 h4;simp
      · have:c≠q:=λhh=>h1 (hh ▸ List.mem_map.2 ⟨_,h,rfl⟩)
        rw[if_neg (by simpa using this)]
        exact ih h2 h
  unfold ydh
  rw[yc8,key _ (by rw[yd3];exact hn) h]
inductive RowK (fl:Bool):Obj'→Prop
  | row (T:Ty) (l:List (Den T)) (h:fl=true→T.flat=true):RowK fl (.row T l)
  | mp (K V:Ty) (l:List (Den K×Den V)) (h:fl=true→K.flat=true∧V.flat=true):RowK fl (.mp K V l)
theorem RowK.up {fl fl':Bool}(h:fl'=true→fl=true){o:Obj'}(k:RowK fl o):RowK fl' o:=by
  cases k with
  | row T l hh=>exact .row T l (λx=>hh (h x))
  | mp K V l hh=>exact .mp K V l (λx=>hh (h x))
theorem rowsR_mem {ρ:Nat→Nat}:∀ (sh:Sh) (x:Den sh.ty) (p:Nat×Ent),p∈sh.rowsR ρ x→∃ c o,p=(ρ c,.live o)∧c∈sh.names∧(c,.live o)∈sh.rows x∧RowK sh.flat o
  | .d _,x,p,h=>by simp[Sh.rowsR]at h
  | .r q e,l,p,h=>by
    simp only[Sh.rowsR,List.mem_singleton]at h
    exact⟨q,_,h,by simp[Sh.names],by simp[Sh.rows],.row e l λh=>h⟩
  | .m q K V,l,p,h=>by
    simp only[Sh.rowsR,List.mem_singleton]at h
    exact⟨q,_,h,by simp[Sh.names],by simp[Sh.rows],.mp K V l λh=>by simpa[Sh.flat]using h⟩
  | .p a b,x,p,h=>by
    simp only[Sh.rowsR,List.mem_append]at h
    rcases h with h | h
    · obtain⟨c,o,h1,h2,h3,h4⟩:=rowsR_mem a x.1 p h
      exact⟨c,o,h1,by simp[Sh.names,h2],by simp[Sh.rows,h3],h4.up λhf=>by simp only[Sh.flat,Bool.and_eq_true]at hf;exact hf.1⟩
    · obtain⟨c,o,h1,h2,h3,h4⟩:=rowsR_mem b x.2 p h
      exact⟨c,o,h1,by simp[Sh.names,h2],by simp[Sh.rows,h3],h4.up λhf=>by simp only[Sh.flat,Bool.and_eq_true]at hf;exact hf.2⟩
  | .al _ _,x,p,h=>by simp[Sh.rowsR]at h
theorem rowsR_names {ρ:Nat→Nat}:∀ (sh:Sh) (x:Den sh.ty),(sh.rowsR ρ x).map Prod.fst=sh.names.map ρ
  | .d _,x=>rfl
  | .r q e,l=>rfl
  | .p a b,x=>by simp only[Sh.rowsR,Sh.names,List.map_append,rowsR_names a,rowsR_names b]
  | .al _ _,_=>rfl
  | .m _ _ _,_=>rfl
inductive NewOf (ρ:Nat→Nat)(g:List Si):Obj'→Obj'→Prop
  | row (T:Ty) (l:List (Den T)) (hf:ybo g=true→T.flat=true):NewOf ρ g (.row T l) (.row T l)
  | mp (K V:Ty) (l:List (Den K×Den V)) (hf:ybo g=true→K.flat=true∧V.flat=true):NewOf ρ g (.mp K V l) (.mp K V l)
  | box (sh:Sh) (y:Den sh.ty) (hn:∀ n∈sh.names,n∈yaW g) (hf:ybo g=true→sh.flat=true) (hq:noQ g=true→sh.refs=[]):NewOf ρ g (.box sh.ty (sh.av y)) (.box sh.ty (sh.avR ρ y))
theorem NewOf.ofRow {ρ:Nat→Nat}{g:List Si}{fl:Bool}{o:Obj'}(h:RowK fl o)(hf:ybo g=true→fl=true):NewOf ρ g o o:=by
  cases h with
  | row T l hh=>exact .row T l (λx=>hh (hf x))
  | mp K V l hh=>exact .mp K V l (λx=>hh (hf x))
theorem NewOf.up {ρ:Nat→Nat}{g g':List Si}(h1:∀ n∈yaW g,n∈yaW g')(h2:ybo g'=true→ybo g=true)(h3:noQ g'=true→noQ g=true){o o':Obj'}(h:NewOf ρ g o o'):NewOf ρ g' o o':=by
  cases h with
  | row T l hf=>exact .row T l (λh=>hf (h2 h))
  | mp K V l hf=>exact .mp K V l (λh=>hf (h2 h))
  | box sh y hn hf hq=>exact .box sh y (λn hm=>h1 n (hn n hm)) (λh=>hf (h2 h)) (λh=>hq (h3 h))
theorem rowsAll_mem [Gl]{ρ:Nat→Nat}:∀ (g:List Si) (u:Dens g) (p:Nat×Ent),p∈ydO ρ g u→∃ c o o',p=(ρ c,.live o')∧c∈yaW g∧(c,.live o)∈ybT g u∧NewOf ρ g o o'
  | [],u,p,h=>by simp[ydO]at h
  | .val _ sh::g,u,p,h=>by
    simp only[ydO,List.mem_append]at h
    rcases h with h | h
    · obtain⟨c,o,h1,h2,h3,h4⟩:=rowsR_mem sh u.1 p h
      exact⟨c,_,_,h1,by simp[yaW,h2],by simp[ybT,h3],NewOf.ofRow h4 λhf=>by simp only[ybo,Bool.and_eq_true]at hf;exact hf.1⟩
    · obtain⟨c,o,o',h1,h2,h3,h4⟩:=rowsAll_mem g u.2 p h
      exact⟨c,o,o',h1,by simp[yaW,h2],by simp[ybT,h3],h4.up (λn hn=>by simp[yaW,hn]) (λhf=>by simp only[ybo,Bool.and_eq_true]at hf;exact hf.2) (λhq=>by simp only[noQ,Bool.and_eq_true]at hq;exact hq.2)⟩
  | .ref a1 a2 a3::g,u,p,h=>by
    obtain⟨c,o,o',h1,h2,h3,h4⟩:=rowsAll_mem g u p h
    exact⟨c,o,o',h1,h2,h3,NewOf.up (g:=g) (g' := .ref a1 a2 a3::g) (λn hn=>hn) (λhf=>hf) (λhf=>hf) h4⟩
  | .clo a1 a2 a3::g,u,p,h=>by
    obtain⟨c,o,o',h1,h2,h3,h4⟩:=rowsAll_mem g u p h
    exact⟨c,o,o',h1,h2,h3,NewOf.up (g:=g) (g' := .clo a1 a2 a3::g) (λn hn=>hn) (λhf=>hf) (λhf=>hf) h4⟩
  | .box _ sh::g,u,p,h=>by
    simp only[ydO,List.mem_append]at h
    rcases h with h | h
    · obtain⟨c,o,h1,h2,h3,h4⟩:=rowsR_mem sh u.1 p h
      exact⟨c,_,_,h1,by simp[yaW,h2],by simp[ybT,h3],NewOf.ofRow h4 λhf=>by simp only[ybo,Bool.and_eq_true]at hf;exact hf.1⟩
    · obtain⟨c,o,o',h1,h2,h3,h4⟩:=rowsAll_mem g u.2 p h
      exact⟨c,o,o',h1,by simp[yaW,h2],by simp[ybT,h3],h4.up (λn hn=>by simp[yaW,hn]) (λhf=>by simp only[ybo,Bool.and_eq_true]at hf;exact hf.2) (λhq=>by simp only[noQ,Bool.and_eq_true]at hq;exact hq.2)⟩
  | .bor _ _ c0 sh::g,u,p,h=>by
    simp only[ydO,List.mem_append,List.mem_cons]at h
    rcases h with h | h | h
    · exact⟨c0,_,_,h,by simp[yaW],by simp[ybT],.box sh u.1 (λn hn=>by simp[yaW,hn]) (λhf=>by simp only[ybo,Bool.and_eq_true]at hf;exact hf.1) (λhq=>by simp only[noQ,Bool.and_eq_true,List.isEmpty_iff]at hq;exact hq.1)⟩
    · obtain⟨c,o,h1,h2,h3,h4⟩:=rowsR_mem sh u.1 p h
      exact⟨c,_,_,h1,by simp[yaW,h2],by simp[ybT,h3],NewOf.ofRow h4 λhf=>by simp only[ybo,Bool.and_eq_true]at hf;exact hf.1⟩
    · obtain⟨c,o,o',h1,h2,h3,h4⟩:=rowsAll_mem g u.2 p h
      exact⟨c,o,o',h1,by simp[yaW,h2],by simp[ybT,h3],h4.up (λn hn=>by simp[yaW,hn]) (λhf=>by simp only[ybo,Bool.and_eq_true]at hf;exact hf.2) (λhq=>by simp only[noQ,Bool.and_eq_true]at hq;exact hq.2)⟩
theorem ydM [Gl]{ρ:Nat→Nat}:∀ (g:List Si) (u:Dens g),(ydO ρ g u).map Prod.fst=(yaW g).map ρ
  | [],u=>rfl
  | .val _ sh::g,u=>by simp only[ydO,yaW,List.map_append,rowsR_names,ydM g u.2]
  | .ref _ _ _::g,u=>ydM g u
  | .clo _ _ _::g,u=>ydM g u
  | .box _ sh::g,u=>by simp only[ydO,yaW,List.map_append,rowsR_names,ydM g u.2]
  | .bor _ _ _ sh::g,u=>by simp only[ydO,yaW,List.map_append,List.map_cons,rowsR_names,ydM g u.2]
theorem nodup_app {a b:List Nat}:nodup (a++b)=true→nodup b=true∧∀ x∈a,x ∉ b:=by
  induction a with
  | nil=>intro h;exact⟨h,λx hx=>by simp at hx⟩
  | cons y a ih=>
    intro h
    obtain⟨h1,h2⟩:=nodup_cons h
    obtain⟨i1,i2⟩:=ih h2
    refine⟨i1,λx hx => ?_⟩
    rcases List.mem_cons.1 hx with rfl | hx
    · exact λhb=>h1 (List.mem_append.2 (.inr hb))
    · exact i2 x hx
theorem ydX:∀ (g:List Si) (c:Nat),c∈yaW g→c∈ycB g
  | [],c,h=>by simp[yaW]at h
  | .val _ sh::g,c,h=>by
    simp only[yaW,ycB,List.mem_append]at h ⊢
    exact h.imp id (ydX g c)
  | .ref _ _ _::g,c,h=>ydX g c h
  | .clo _ _ _::g,c,h=>ydX g c h
  | .box _ sh::g,c,h=>by
    simp only[yaW,ycB,List.mem_append,List.mem_cons]at h ⊢
    exact .inr (h.imp id (ydX g c))
  | .bor _ _ _ sh::g,c,h=>by
    simp only[yaW,ycB,List.mem_append,List.mem_cons]at h ⊢
    exact h.imp id λh=>h.imp id (ydX g c)
theorem ydb:∀ (g:List Si) (c:Nat),ycG c g=true→c∈ycB g
  | [],c,h=>by simp[ycG]at h
  | .val _ sh::g,c,h=>by
    simp only[ycB,List.mem_append]
    exact .inr (ydb g c h)
  | .ref _ _ _::g,c,h=>ydb g c h
  | .clo _ _ _::g,c,h=>ydb g c h
  | .box r sh::g,c,h=>by
    simp only[ycG,Bool.or_eq_true,beq_iff_eq]at h
    simp only[ycB,List.mem_append,List.mem_cons]
    exact h.imp Eq.symm λh => .inr (ydb g c h)
  | .bor _ _ _ sh::g,c,h=>by
    simp only[ycB,List.mem_append,List.mem_cons]
    exact .inr (.inr (ydb g c h))
theorem ydW:∀ (g:List Si) (c:Nat),nodup (ycB g)=true→ycG c g=true→c ∉ yaW g
  | [],c,_,h=>by simp[ycG]at h
  | .val _ sh::g,c,hn,h=>by
    simp only[ycB]at hn
    obtain⟨n1,n2⟩:=nodup_app hn
    simp only[yaW,List.mem_append,not_or]
    exact⟨λhc=>n2 c hc (ydb g c h),ydW g c n1 h⟩
  | .ref _ _ _::g,c,hn,h=>ydW g c hn h
  | .clo _ _ _::g,c,hn,h=>ydW g c hn h
  | .box r sh::g,c,hn,h=>by
    simp only[ycB]at hn
    obtain⟨n1,n2⟩:=nodup_cons hn
    obtain⟨n3,n4⟩:=nodup_app n2
    simp only[yaW,List.mem_append,not_or]
    simp only[ycG,Bool.or_eq_true,beq_iff_eq]at h
    rcases h with h | h
    · subst h
      exact⟨λhc=>n1 (List.mem_append.2 (.inl hc)),λhc=>n1 (List.mem_append.2 (.inr (ydX g _ hc)))⟩
    · exact⟨λhc=>n4 c hc (ydb g c h),ydW g c n3 h⟩
  | .bor _ _ r sh::g,c,hn,h=>by
    simp only[ycB]at hn
    obtain⟨n1,n2⟩:=nodup_cons hn
    obtain⟨n3,n4⟩:=nodup_app n2
    simp only[yaW,List.mem_append,List.mem_cons,not_or]
    exact⟨λhc=>n1 (List.mem_append.2 (.inr (hc ▸ ydb g c h))),λhc=>n4 c hc (ydb g c h),ydW g c n3 h⟩
theorem findB_mem {c:Nat}{o:Obj'}:∀ {l:List (Nat×Obj')},findB c l=some o→(c,o)∈l
  | [],h=>by simp[findB]at h
  | (c',o')::l,h=>by
    simp only[findB]at h
    split at h
    · rename_i hh
      injection h with h;subst h
      have:c=c':=by simpa using hh
      subst this;exact List.mem_cons_self
    · exact List.mem_cons_of_mem _ (findB_mem h)
theorem boxesR_mem {ρ:Nat→Nat}:∀ (g:List Si) (u:Dens g) (c:Nat) (o:Obj'),(c,o)∈boxesR ρ g u→∃ (sh:Sh) (y:Den sh.ty),o = .box sh.ty (sh.avR ρ y)∧(c,.live (.box sh.ty (sh.av y)))∈ybT g u∧(∀ n∈sh.names,n∈yaW g)∧(ybo g=true→sh.flat=true)∧(noQ g=true→sh.refs=[])
  | [],u,c,o,h=>by simp[boxesR]at h
  | .val _ sh::g,u,c,o,h=>by
    obtain⟨s,y,h1,h2,h3,h4⟩:=boxesR_mem g u.2 c o h
    exact⟨s,y,h1,by simp[ybT,h2],λn hn=>by simp[yaW,h3 n hn],λhf=>h4.1 (by simp only[ybo,Bool.and_eq_true]at hf;exact hf.2),λhq=>h4.2 (by simp only[noQ,Bool.and_eq_true]at hq;exact hq.2)⟩
  | .ref _ _ _::g,u,c,o,h=>boxesR_mem g u c o h
  | .clo _ _ _::g,u,c,o,h=>boxesR_mem g u c o h
  | .bor _ _ _ sh::g,u,c,o,h=>by
    obtain⟨s,y,h1,h2,h3,h4⟩:=boxesR_mem g u.2 c o h
    exact⟨s,y,h1,by simp[ybT,h2],λn hn=>by simp[yaW,h3 n hn],λhf=>h4.1 (by simp only[ybo,Bool.and_eq_true]at hf;exact hf.2),λhq=>h4.2 (by simp only[noQ,Bool.and_eq_true]at hq;exact hq.2)⟩
  | .box c' sh::g,u,c,o,h=>by
    simp only[boxesR,List.mem_cons]at h
    rcases h with h | h
    · injection h with e1 e2
      subst e1 e2
      exact⟨sh,u.1,rfl,by simp[ybT],λn hn=>by simp[yaW,hn],λhf=>by simp only[ybo,Bool.and_eq_true]at hf;exact hf.1,λhq=>by simp only[noQ,Bool.and_eq_true,List.isEmpty_iff]at hq;exact hq.1⟩
    · obtain⟨s,y,h1,h2,h3,h4⟩:=boxesR_mem g u.2 c o h
      exact⟨s,y,h1,by simp[ybT,h2],λn hn=>by simp[yaW,h3 n hn],λhf=>h4.1 (by simp only[ybo,Bool.and_eq_true]at hf;exact hf.2),λhq=>h4.2 (by simp only[noQ,Bool.and_eq_true]at hq;exact hq.2)⟩
theorem boxesR_has {ρ:Nat→Nat}{c:Nat}:∀ (g:List Si) (u:Dens g),ycG c g=true→∃ o,findB c (boxesR ρ g u)=some o
  | [],u,h=>by simp[ycG]at h
  | .val _ sh::g,u,h=>boxesR_has g u.2 h
  | .ref _ _ _::g,u,h=>boxesR_has g u h
  | .clo _ _ _::g,u,h=>boxesR_has g u h
  | .bor _ _ _ sh::g,u,h=>boxesR_has g u.2 h
  | .box c' sh::g,u,h=>by
    simp only[boxesR,findB]
    split
    · exact⟨_,rfl⟩
    · rename_i hne
      simp only[ycG,Bool.or_eq_true,beq_iff_eq]at h
      rcases h with h | h
      · exact absurd h.symm (by simpa using hne)
      · exact boxesR_has g u.2 h
theorem backW_mem {bs:List (Nat×Obj')} {r:Nat} {e:Ent}:∀ {l:List (Nat×Nat)},(r,e)∈backW bs l→∃ c o,(r,c)∈l∧findB c bs=some o∧e = .live o
  | [],h=>by simp[backW]at h
  | (q, c)::l,h=>by
    have tl:(r,e)∈backW bs l→∃ c' o,(r,c')∈(q,c)::l∧findB c' bs=some o∧e = .live o:=λh=>by
      obtain⟨c',o,h1,h2⟩:=backW_mem h
      exact⟨c',o,List.mem_cons_of_mem _ h1,h2⟩
    simp only[backW]at h
    split at h
    · rename_i o ho
      rcases List.mem_cons.1 h with h | h
      · injection h with e1 e2;subst e1 e2
        exact⟨c,o,List.mem_cons_self,ho,rfl⟩
      · exact tl h
    · exact tl h
theorem backW_names {bs:List (Nat×Obj')}:∀ {l:List (Nat×Nat)},(∀ p∈l,∃ o,findB p.2 bs=some o)→(backW bs l).map Prod.fst=l.map Prod.fst
  | [],_=>rfl
  | (q,c)::l,h=>by
    obtain⟨o,ho⟩:=h (q,c) List.mem_cons_self
    simp only at ho
    simp only[backW,ho,List.map_cons]
    rw[backW_names (λp hp=>h p (List.mem_cons_of_mem _ hp))]
theorem killL_mem {bn:List Nat} {q:Nat}:∀ {ms:List Mv},q∈killL bn ms→∃ m∈ms,m.src=some q∧m.name ∉ bn
  | [],h=>by simp[killL]at h
  | m :: ms,h=>by
    have tl:q∈killL bn ms→∃ m'∈m::ms,m'.src=some q∧m'.name ∉ bn:=λh=>by
      obtain⟨m',h1,h2⟩:=killL_mem h
      exact⟨m',List.mem_cons_of_mem _ h1,h2⟩
    simp only[killL]at h
    split at h
    · rename_i q' hs
      split at h
      · exact tl h
      · rename_i hb
        rcases List.mem_cons.1 h with h | h
        · subst h;exact⟨m,List.mem_cons_self,hs,by simpa using hb⟩
        · exact tl h
    · exact tl h
theorem ydt {bn:List Nat} {q c:Nat}:∀ {ms:List Mv},(q,c)∈borL bn ms → .mv c q∈ms∧c∈bn
  | [],h=>by simp[borL]at h
  | .mv c' q'::ms,h=>by
    simp only[borL]at h
    split at h
    · rename_i hb
      rcases List.mem_cons.1 h with h | h
      · injection h with e1 e2;subst e1 e2
        exact⟨List.mem_cons_self,by simpa using hb⟩
      · exact⟨List.mem_cons_of_mem _ (ydt h).1,(ydt h).2⟩
    · exact⟨List.mem_cons_of_mem _ (ydt h).1,(ydt h).2⟩
  | .cutm _ _ _::ms,h=>⟨List.mem_cons_of_mem _ (ydt (ms:=ms) h).1,(ydt (ms:=ms) h).2⟩
  | .nilm _ _::ms,h=>⟨List.mem_cons_of_mem _ (ydt (ms:=ms) h).1,(ydt (ms:=ms) h).2⟩
theorem kill_or_bor {bn:List Nat}{q:Nat}:∀ {ms:List Mv},(∀ m∈ms,m.name∈bn→∃ c q,m = .mv c q)→q∈srcs ms→q∈killL bn ms∨q∈(borL bn ms).map Prod.fst
  | [],_,h=>by simp[srcs]at h
  | .mv c q'::ms,hb,h=>by
    have ih:=λ(h:q∈srcs ms)=>kill_or_bor (ms:=ms) (λm hm=>hb m (List.mem_cons_of_mem _ hm)) h
    have e1:killL bn (.mv c q'::ms)=if bn.elem c=true then killL bn ms else q'::killL bn ms:=rfl
    have e2:borL bn (.mv c q'::ms)=if bn.elem c=true then (q',c)::borL bn ms else borL bn ms:=rfl
    simp only[srcs,List.mem_cons]at h
    rw[e1,e2]
    by_cases hc:bn.elem c=true
    · rw[if_pos hc,if_pos hc]
      rcases h with h | h
      · right;simp[h]
      · exact (ih h).imp id (λh=>List.mem_cons_of_mem _ h)
    · rw[if_neg hc,if_neg hc]
      rcases h with h | h
      · left;simp[h]
      · exact (ih h).imp (λh=>List.mem_cons_of_mem _ h) id
  | .cutm c q' k::ms,hb,h=>by
    have ih:=λ(h:q∈srcs ms)=>kill_or_bor (ms:=ms) (λm hm=>hb m (List.mem_cons_of_mem _ hm)) h
    have e1:killL bn (.cutm c q' k::ms)=if bn.elem c=true then killL bn ms else q'::killL bn ms:=rfl
    have e2:borL bn (.cutm c q' k::ms)=borL bn ms:=rfl
    simp only[srcs,List.mem_cons]at h
    rw[e1,e2]
    by_cases hc:bn.elem c=true
    · obtain⟨c',q2,e⟩:=hb _ List.mem_cons_self (show Mv.name (.cutm c q' k)∈bn by simpa[Mv.name]using hc)
      exact absurd e (by simp)
    · rw[if_neg hc]
      rcases h with h | h
      · left;simp[h]
      · exact (ih h).imp (λh=>List.mem_cons_of_mem _ h) id
  | .nilm c e::ms,hb,h=>kill_or_bor (ms:=ms) (λm hm=>hb m (List.mem_cons_of_mem _ hm)) h
theorem MpL.map {E E':Env}{w w':World}{K V':Ty}(hk:∀ x c,Rd E.S w K x c→Rd E'.S w' K x c)(hv:∀ x c,Rd E.S w V' x c→Rd E'.S w' V' x c):∀ (l:List (Den K×Den V')) (es:List MapEntry),MpL E w K V' l es→MpL E' w' K V' l es
  | [],_,k=>k
  | p :: l,_,⟨e,r,h1,h2,h3,h4⟩=>by
    have hm:∀ (T:Ty),(∀ x c,Rd E.S w T x c→Rd E'.S w' T x c)→∀ (x:Den T) (y:Value),Va.V E w (.data T x) y→Va.V E' w' (.data T x) y:=λT h x y k=>by
      unfold Va.V at k ⊢
      split at k
      · rename_i ha;rw[if_pos ha];obtain⟨c,hc,k⟩:=k;exact⟨c,hc,h x _ k⟩
      · rename_i ha;rw[if_neg ha];exact h x _ k
    exact⟨e,r,h1,hm K hk _ _ h2,hm V' hv _ _ h3,MpL.map hk hv l r h4⟩
theorem ren_C [Gl]{E' E2:Env}{w':World}{ρ:Nat→Nat}(flat:Bool)(hS:flat=false→E2.S=E'.S):∀ (sh:Sh) (x:Den sh.ty) (cs:List Value),(flat=true→sh.flat=true)→sh.refs=[] →
    (∀ n∈sh.names,E2.U (ρ n)∧E2.β (ρ n)=E'.β n∧E2.L (ρ n)=E'.L n)→C E' w' (sh.av x) cs→C E2 w' (sh.avR ρ x) cs
  | .al r T,x,cs,hf,hq,hn,hc=>by simp[Sh.refs]at hq
  | .d T,x,cs,hf,hq,hn,hc=>by
    cases flat with
    | false=>change Rd E2.S w' T x cs;rw[hS rfl];exact hc
    | true=>exact Rd_flat T x cs (hf rfl) hc
  | .r q e,l,cs,hf,hq,hn,hc=>by
    obtain⟨p1,p2,p3⟩:=hn q (by simp[Sh.names])
    obtain⟨a,len,cap,ea,hu,hL⟩:=hc
    exact⟨a,len,cap,ea,p1,λL hL'=>by rw[p2];exact hL L (p3 ▸ hL')⟩
  | .m q K V,l,cs,hf,hq,hn,hc=>by
    obtain⟨p1,p2,p3⟩:=hn q (by simp[Sh.names])
    obtain⟨a,ea,hu,hL⟩:=hc
    exact⟨a,ea,p1,λL hL'=>by rw[p2];exact hL L (p3 ▸ hL')⟩
  | .p a b,x,cs,hf,hq,hn,hc=>by
    simp only[Sh.refs,List.append_eq_nil_iff]at hq
    obtain⟨c1,c2,e,h1,h2⟩:=hc
    exact⟨c1,c2,e,ren_C flat hS a x.1 c1 (λh=>by have:=hf h;simp only[Sh.flat,Bool.and_eq_true]at this;exact this.1) hq.1 (λn hm=>hn n (by simp[Sh.names,hm])) h1,
      ren_C flat hS b x.2 c2 (λh=>by have:=hf h;simp only[Sh.flat,Bool.and_eq_true]at this;exact this.2) hq.2 (λn hm=>hn n (by simp[Sh.names,hm])) h2⟩
theorem po_back [Gl]{E' E2:Env}{w':World}{r q:Nat}{T:Ty}(h:E2.U q∧E2.β q=E'.β r∧E2.L q=E'.L r)(cs:List Value)(hc:C E' w' (.po r (.box T) []) cs):C E2 w' (.po q (.box T) []) cs:=by
  obtain⟨p1,p2,p3⟩:=h
  obtain⟨a,ea,hu,hL⟩:=hc
  exact⟨a,ea,p1,λL hL'=>by rw[p2];exact hL L (p3 ▸ hL')⟩
theorem outs_back [Gl]{E' E2:Env}{w':World}{ρ σ:Nat→Nat}{g:List Si}{flat:Bool}(hS:flat=false→E2.S=E'.S){g0:List Si}(hσ:∀ r,ycG r g0=true→E2.U (σ r)∧E2.β (σ r)=E'.β r∧E2.L (σ r)=E'.L r) :
    ∀ (os:List (Nat×Oi)) (j:Nat) (u:Dens (yc0 j os g)) (vs:List Value),(flat=true→ybo (yc0 j os g)=true)→(∀ n∈yaW (yc0 j os g),E2.U (ρ n)∧E2.β (ρ n)=E'.β n∧E2.L (ρ n)=E'.L n)→ydq g0 (yc0 j os g)=true→noQ (yc0 j os g)=true →
      C E' w' (ycn (outAVs id id j os g u)) vs→C E2 w' (ycn (outAVs ρ σ j os g u)) vs
  | [],_,_,_,_,_,_,_,h=>h
  | (t,⟨sh,c0,.v⟩)::os,j,u,vs,hf,hp,hr,hq,⟨x,vs',e,h1,h2⟩=>by
    simp only[yc0,ydq,Bool.and_eq_true]at hr
    simp only[yc0,noQ,Bool.and_eq_true,List.isEmpty_iff]at hq
    refine⟨x,vs',e,?_,outs_back hS hσ os (j+1) u.2 vs' (λh=>by have:=hf h;simp only[yc0,ybo,Bool.and_eq_true]at this;exact this.2) (λn hn=>hp n (by simp only[yc0,yaW,List.mem_append];exact .inr hn)) hr.2 hq.2 h2⟩
    have key:∀ cs,C E' w' ((sh.nm (nmO j)).av u.1) cs→C E2 w' ((sh.nm (nmO j)).avR ρ u.1) cs:=λcs hc=>
      ren_C flat hS (sh.nm (nmO j)) u.1 cs (λh=>by have:=hf h;simp only[yc0,ybo,Bool.and_eq_true]at this;exact this.1) hq.1 (λn hn=>hp n (by simp only[yc0,yaW,List.mem_append];exact .inl hn)) hc
    rw[avR_id,av_agg]at h1
    rw[avR_agg]
    split at h1
    · rename_i ha;rw[if_pos ha];obtain⟨c,hc,h1⟩:=h1;exact⟨c,hc,key _ h1⟩
    · rename_i ha;rw[if_neg ha];exact key _ h1
  | (t,⟨sh,c0,.new d⟩)::os,j,u,vs,hf,hp,hr,hq,⟨x,vs',e,h1,h2⟩=>by
    simp only[yc0,ydq,Bool.and_eq_true]at hr
    simp only[yc0,noQ,Bool.and_eq_true,List.isEmpty_iff]at hq
    refine⟨x,vs',e,?_,outs_back hS hσ os (j+1) u.2 vs' (λh=>by have:=hf h;simp only[yc0,ybo,Bool.and_eq_true]at this;exact this.2) (λn hn=>hp n (by simp only[yc0,yaW,List.mem_append,List.mem_cons];exact .inr (.inr hn))) hr.2.2 hq.2 h2⟩
    exact V_wrap (p := .po (nmO j) (.box (sh.nm (nmO j+1)).ty) []) (p' := .po (ρ (nmO j)) (.box (sh.nm (nmO j+1)).ty) []) rfl (po_back (hp (nmO j) (by simp[yc0,yaW]))) d x h1
  | (t,⟨sh,c0,.arg d r⟩)::os,j,u,vs,hf,hp,hr,hq,⟨x,vs',e,h1,h2⟩=>by
    simp only[yc0,ydq,cloRefs,Bool.and_eq_true]at hr
    refine⟨x,vs',e,?_,outs_back hS hσ os (j+1) u vs' hf hp hr.2 hq h2⟩
    exact V_wrap (p := .po r (.box sh.ty) []) (p' := .po (σ r) (.box sh.ty) []) rfl (po_back (hσ r (by simpa using hr.1.1))) d x h1
theorem one_back [Gl]{E' E'':Env}{w':World}:∀ (l l':List AV) (x:Value),l.length=l'.length→(∀ vs,C E' w' (ycn l) vs→C E'' w' (ycn l') vs)→V E' w' (oneAV l) x→V E'' w' (oneAV l') x
  | [],[],x,_,h,hv=>by
    simp only[oneAV]at hv ⊢
    rw[V_one rfl]at hv ⊢
    obtain⟨vs,e,h1⟩:=hv
    exact⟨vs,e,h _ h1⟩
  | [a],[b],x,_,h,hv=>by
    simp only[oneAV]at hv ⊢
    obtain⟨y,vs,e,h1,h2⟩:=h [x] ⟨x,[],rfl,hv,rfl⟩
    injection e with e1 e2;subst e1
    exact h1
  | a::a2::l,b::b2::l',x,_,h,hv=>by
    simp only[oneAV]at hv ⊢
    rw[V_one rfl]at hv ⊢
    obtain⟨vs,e,h1⟩:=hv
    exact⟨vs,e,h _ h1⟩
  | [],_::_,x,hl,_,_=>by simp at hl
  | _::_,[],x,hl,_,_=>by simp at hl
  | [_],_::_::_,x,hl,_,_=>by simp at hl
  | _::_::_,[_],x,hl,_,_=>by simp at hl
theorem outs_length (ρ ρ' σ σ':Nat→Nat):∀ (j:Nat) (os:List (Nat×Oi)) (g:List Si) (u:Dens (yc0 j os g)),(outAVs ρ σ j os g u).length=(outAVs ρ' σ' j os g u).length
  | _,[],_,_=>rfl
  | j,(_,⟨_,_,.v⟩)::os,g,u=>by simp[outAVs,outs_length ρ ρ' σ σ' (j+1) os g u.2]
  | j,(_,⟨_,_,.new _⟩)::os,g,u=>by simp[outAVs,outs_length ρ ρ' σ σ' (j+1) os g u.2]
  | j,(_,⟨_,_,.arg _ _⟩)::os,g,u=>by simp[outAVs,outs_length ρ ρ' σ σ' (j+1) os g u]
theorem entry_post [Gl] {E E1 E':Env} {w':World} {look:Nat→Ent} {as:List Ai} {os:List (Nat×Oi)} {u:DOut as os} {rs:List Nat} {ms:List Mv} {ρ:Nat→Nat} {x:Value}
    (h:HREL P0 S0 E look w) (hlv:∀ m∈ms,∀ q,m.src=some q→(look q).isLive=true) (hnm:nodup (ms.map Mv.name)=true) (hq1:nodup (srcs ms)=true) (hq2:meets (srcs ms) rs=false)
    (hmv:∀ m∈ms,m.name∈bnOf 0 as→∃ c q,m = .mv c q) (hn2:nodup (ycB (gOut as os))=true) (hbx:∀ r∈bnOf 0 as,ycG r (gOut as os)=true) (hrf:ydq (gOut as os) (gOut as os)=true) (hnq:noQ (gOut as os)=true) (hσ:∀ r,ycG r (gOut as os)=true→(sgm ms r,r)∈borL (bnOf 0 as) ms)
    (h1:HREL P0 S0 E1 (updL (Va.shut look rs) look) w) (x1:Ext P0 E w E1 w) (b1:∀ r,E1.β r=E.β r) (s1:∀ r∈rs,∀ T l,look r = .live (.row T l)→∀ b,E.β r=some b→E1.S b)
    (hun:∀ c∈yaW (gOut as os),look (ρ c) = .un) (hρ:∀ i j,ρ i=ρ j→i=j)
    (h':HREL (λb=>P0 b∨∃ r,r ∉ srcs ms∧(look r).isLive=true∧E.β r=some b) E1.S E' (ydh (gOut as os) u) w')
    (hp:Pub (bnOf 0 as) (λb=>P0 b∨∃ r,r ∉ srcs ms∧(look r).isLive=true∧E.β r=some b) (cutE E E1.S ms) w E' w') (hk:MvsOk E (cutE E E1.S ms) ms)
    (hv:V E' w' (oneAV (outAVs id id 0 os (boxSig 0 as) u)) x) :
    OpPost P0 S0 E look w (oneAV (outAVs ρ (sgm ms) 0 os (boxSig 0 as) u)) (wnOf (ybo (gOut as os)) look rs (bnOf 0 as) ms ρ (gOut as os) u) x w':=by
  have hsE:∀ b,E1.S b→E'.S b:=λb hb=>hp.s b hb
  have hqlive:∀ q∈srcs ms,(look q).isLive=true:=λq hq=>by obtain⟨m,h1,h2⟩:=srcs_inv hq;exact hlv m h1 q h2
  -- the names of the new rows
  let np:Nat→Option Nat:=λr=>(yaW (gOut as os)).find? (λc=>ρ c==r)
  have hnp_some:∀ {r c},np r=some c→c∈yaW (gOut as os)∧ρ c=r:=fun {r c} hc=>⟨List.mem_of_find?_eq_some hc,by have:=List.find?_some hc;simpa using this⟩
  have hpair:∀ c∈yaW (gOut as os),np (ρ c)=some c:=by
    intro c hc
    cases hf:np (ρ c) with
    | none=>
      have:=List.find?_eq_none.1 hf c hc
      simp at this
    | some c'=>rw[hρ _ _ (hnp_some hf).2]
  have hlook:∀ r,look r ≠ .un→np r=none:=by
    intro r hr
    cases hf:np r with
    | none=>rfl
    | some c=>exact absurd ((hnp_some hf).2 ▸ hun c (hnp_some hf).1) hr
  let E2 : Env := { β := λr=>match np r with
                      | some c=>E'.β c
                      | none=>E.β r
                    L := λr=>match np r with
                      | some c=>E'.L c
                      | none=>if (killL (bnOf 0 as) ms).elem r=true then none else E.L r
                    U:=λr=>E.U r∨(np r).isSome=true
                    S:=if ybo (gOut as os)=true then E.S else E'.S }
  have e2β:∀ r,look r ≠ .un→E2.β r=E.β r:=λr hr=>by simp only[E2,hlook r hr]
  have e2L:∀ r,look r ≠ .un→r ∉ killL (bnOf 0 as) ms→E2.L r=E.L r:=λr hr hk'=>by
    simp only[E2,hlook r hr]
    rw[if_neg]
    intro hh;exact hk' (by simpa using hh)
  have e2Lk:∀ r,look r ≠ .un→r∈killL (bnOf 0 as) ms→E2.L r=none:=λr hr hk'=>by
    simp only[E2,hlook r hr]
    rw[if_pos (by simpa using hk')]
  have e2n:∀ c∈yaW (gOut as os),E2.U (ρ c)∧E2.β (ρ c)=E'.β c∧E2.L (ρ c)=E'.L c:=λc hc=>by
    have:=hpair c hc
    exact⟨.inr (by rw[this];rfl),by simp only[E2,this],by simp only[E2,this]⟩
  have e2S:∀ b,E2.S b→E'.S b:=λb hb=>by
    simp only[E2]at hb
    split at hb
    · exact hsE b (x1.s b hb)
    · exact hb
  have sE2:∀ b,E.S b→E2.S b:=λb hb=>by
    simp only[E2]
    split
    · exact hb
    · exact hsE b (x1.s b hb)
  have hS2:ybo (gOut as os)=false→E2.S=E'.S:=λhf=>by simp only[E2];rw[if_neg (by simp[hf])]
  have hx:Ext P0 E w E2 w':=by
    refine⟨sE2,hp.keep.mono (λb hb=>x1.s b hb),hp.keepP.mono (λb hb => .inl hb),λr hr => ?_⟩
    have hne:=(h.U_iff r).1 hr
    refine⟨.inl hr,?_⟩
    by_cases hkr:r∈killL (bnOf 0 as) ms
    · exact .inl (e2Lk r hne hkr)
    · exact .inr ⟨e2L r hne hkr,e2β r hne⟩
  have hborq:∀ r c,(r,c)∈borL (bnOf 0 as) ms→r∈srcs ms∧look r ≠ .un∧r ∉ killL (bnOf 0 as) ms:=by
    intro r c hm
    obtain⟨k1,k2⟩:=ydt hm
    have hs:=ydJ k1 (q:=r) rfl
    refine⟨hs,λhh => ?_,λhkl => ?_⟩
    · have:=hqlive r hs;rw[hh]at this;simp[Ent.isLive]at this
    · obtain⟨m,g1,g2,g3⟩:=killL_mem hkl
      have:=srcs_inj hq1 g1 k1 g2 rfl
      subst this
      exact g3 k2
  -- lent variables
  have hbor:∀ r c,(r,c)∈borL (bnOf 0 as) ms→E'.U c∧(E'.L c=none∨(E'.L c=E.L r∧E'.β c=E.β r)):=by
    intro r c hm
    obtain⟨m1,m2⟩:=ydt hm
    obtain⟨k1,k2,k3⟩:=hk _ m1
    obtain⟨o1,o2⟩:=hp.obj c m2 k1
    exact⟨o1,o2.imp id (λhh=>⟨hh.1.trans k3,hh.2.trans k2⟩)⟩
  -- an object that the callee has told
  have hback:∀ r c (sh:Sh) (y:Den sh.ty),(r,c)∈borL (bnOf 0 as) ms→ydh (gOut as os) u c = .live (.box sh.ty (sh.av y))→(∀ n∈sh.names,n∈yaW (gOut as os))→(ybo (gOut as os)=true→sh.flat=true)→sh.refs=[] →
      OREL E2 w' r (.box sh.ty (sh.avR ρ y))∧E'.β c=E.β r:=by
    intro r c sh y hm hl hnn hf hq0
    have hent:=h'.ent c
    rw[hl]at hent
    obtain⟨_,b,cs,t,fr,k1,k2,k3,k4,k5,k6⟩:=hent
    obtain⟨_,ho⟩:=hbor r c hm
    obtain⟨g1,g2,g3⟩:=hborq r c hm
    rcases ho with ho | ⟨ho1,ho2⟩
    · rw[ho]at k2;exact absurd k2 (by simp)
    · exact⟨⟨b,cs,t,fr,(e2β r g2).trans (ho2.symm.trans k1),(e2L r g2 g3).trans (ho1.symm.trans k2),k3,k4,avR_ty ρ sh y,
        ren_C (ybo (gOut as os)) hS2 sh y _ hf hq0 (λn hn=>e2n n (hnn n hn)) k6⟩,ho2⟩
  have hdata:∀ {T:Ty} {d:Den T} {cs:List Value},(ybo (gOut as os)=true→T.flat=true)→Rd E'.S w' T d cs→Rd E2.S w' T d cs:=by
    intro T d cs hf hr
    by_cases hfl:ybo (gOut as os)=true
    · exact Rd_flat T _ _ (hf hfl) hr
    · rw[hS2 (by simpa using hfl)];exact hr
  have hnewO:∀ c o o',c∈yaW (gOut as os)→ydh (gOut as os) u c = .live o→NewOf ρ (gOut as os) o o'→OREL E2 w' (ρ c) o':=by
    intro c o o' hm hl hnw
    have hent:=h'.ent c
    rw[hl]at hent
    obtain⟨_,eβ,eL⟩:=e2n c hm
    cases hnw with
    | row T l hf=>
      obtain⟨_,N,k1,k2⟩:=hent
      refine⟨N,eL.trans k1,?_⟩
      rw[eβ]
      split at k2
      · obtain⟨cs,t,fr,c1,c2,g1,g2,g3,g4,g5⟩:=k2
        exact⟨cs,t,fr,c1,c2,g1,g2,g3,g4,RdL.mono (λx c hh=>hdata hf hh) _ _ g5⟩
      · exact k2
    | mp K V l hf=>
      obtain⟨_,b,es,ck,k1,k2,k3,k4⟩:=hent
      exact⟨b,es,ck,eβ.trans k1,eL.trans k2,k3,MpL.map (λx c hh=>hdata (λh=>(hf h).1) hh) (λx c hh=>hdata (λh=>(hf h).2) hh) _ _ k4.1,k4.2⟩
    | box sh y hn hf hq0=>
      obtain⟨_,b,cs,t,fr,k1,k2,k3,k4,k5,k6⟩:=hent
      exact⟨b,cs,t,fr,eβ.trans k1,eL.trans k2,k3,k4,avR_ty ρ sh y,
        ren_C (ybo (gOut as os)) hS2 sh y _ hf (hq0 hnq) (λn hm=>e2n n (hn n hm)) k6⟩
  have hfind:∀ p∈borL (bnOf 0 as) ms,∃ o,findB p.2 (boxesR ρ (gOut as os) u)=some o:=λp hm=>boxesR_has _ _ (hbx p.2 (ydt (q:=p.1) (c:=p.2) hm).2)
  -- what stands at each name
  have hcase:∀ r,(∃ T l,updL (wnOf (ybo (gOut as os)) look rs (bnOf 0 as) ms ρ (gOut as os) u) look r = .froz T l∧ybo (gOut as os)=false∧r∈rs∧look r = .live (.row T l)) ∨
      (updL (wnOf (ybo (gOut as os)) look rs (bnOf 0 as) ms ρ (gOut as os) u) look r = .dead∧r∈srcs ms∧r∈killL (bnOf 0 as) ms) ∨
      (∃ (c:Nat) (sh:Sh) (y:Den sh.ty),updL (wnOf (ybo (gOut as os)) look rs (bnOf 0 as) ms ρ (gOut as os) u) look r = .live (.box sh.ty (sh.avR ρ y))∧(r,c)∈borL (bnOf 0 as) ms∧ydh (gOut as os) u c = .live (.box sh.ty (sh.av y)) ∧
        (∀ n∈sh.names,n∈yaW (gOut as os))∧(ybo (gOut as os)=true→sh.flat=true)∧sh.refs=[]) ∨
      (∃ c o o',updL (wnOf (ybo (gOut as os)) look rs (bnOf 0 as) ms ρ (gOut as os) u) look r = .live o'∧r=ρ c∧c∈yaW (gOut as os)∧ydh (gOut as os) u c = .live o∧NewOf ρ (gOut as os) o o') ∨
      (updL (wnOf (ybo (gOut as os)) look rs (bnOf 0 as) ms ρ (gOut as os) u) look r=look r∧r ∉ srcs ms∧r ∉ killL (bnOf 0 as) ms∧np r=none ∧
        (ybo (gOut as os)=false→∀ T l,look r = .live (.row T l)→r ∉ rs)):=by
    intro r
    unfold wnOf
    rw[yc8,findW_append,findW_append,findW_append]
    cases f1:findW r (if ybo (gOut as os)=true then [] else shut look rs) with
    | some e=>
      left
      have hm:=findW_mem f1
      split at hm
      · simp at hm
      · rename_i hf
        obtain⟨g1,T,l,g2,g3⟩:=shut_mem rs hm
        exact⟨T,l,g3,by simpa using hf,g1,g2⟩
    | none=>
      right
      cases f2:findW r ((killL (bnOf 0 as) ms).map (λq=>(q,Ent.dead))) with
      | some e=>
        left
        obtain⟨q,hq,hqe⟩:=List.mem_map.1 (findW_mem f2)
        injection hqe with e1 e2
        subst e1 e2
        obtain⟨m,g1,g2,g3⟩:=killL_mem hq
        exact⟨rfl,ydJ g1 g2,hq⟩
      | none=>
        right
        cases f3:findW r (backW (boxesR ρ (gOut as os) u) (borL (bnOf 0 as) ms)) with
        | some e=>
          left
          obtain⟨c,o,g1,g2,g3⟩:=backW_mem (findW_mem f3)
          obtain⟨sh,y,k1,k2,k3,k4,k5⟩:=boxesR_mem _ _ _ _ (findB_mem g2)
          exact⟨c,sh,y,by simp only[g3,k1],g1,heapOf_mem hn2 k2,k3,k4,k5 hnq⟩
        | none=>
          right
          cases f4:findW r (ydO ρ (gOut as os) u) with
          | some e=>
            left
            obtain⟨c,o,o',g1,g2,g3,g4⟩:=rowsAll_mem _ _ _ (findW_mem f4)
            injection g1 with e1 e2
            exact⟨c,o,o',e2,e1,g2,heapOf_mem hn2 g3,g4⟩
          | none=>
            right
            have n2:=findW_no f2
            have n3:=findW_no f3
            have n4:=findW_no f4
            rw[backW_names hfind]at n3
            rw[ydM]at n4
            have n2':r ∉ killL (bnOf 0 as) ms:=λhh=>n2 (List.mem_map.2 ⟨(r,.dead),List.mem_map.2 ⟨r,hh,rfl⟩,rfl⟩)
            refine⟨rfl,λhq=>(kill_or_bor hmv hq).elim n2' n3,n2',?_,λhf T l hl hr => ?_⟩
            · cases hf:np r with
              | none=>rfl
              | some c=>exact absurd (List.mem_map.2 ⟨c,(hnp_some hf).1,(hnp_some hf).2⟩) n4
            have n1:=findW_no f1
            rw[if_neg (by simp[hf])]at n1
            refine n1 ?_
            have:∀ rs:List Nat,r∈rs→r∈(Va.shut look rs).map Prod.fst:=by
              intro rs
              induction rs with
              | nil=>intro hh;simp at hh
              | cons q rs ih=>
                intro hh
                unfold Va.shut
                rcases List.mem_cons.1 hh with hh | hh
                · subst hh;rw[hl];simp
                · split
                  · exact List.mem_cons_of_mem _ (ih hh)
                  · exact ih hh
            exact this rs hr
  -- whose block is whose
  have hcls:∀ r,(updL (wnOf (ybo (gOut as os)) look rs (bnOf 0 as) ms ρ (gOut as os) u) look r).isLive=true →
      (∃ c,(ydh (gOut as os) u c).isLive=true∧E2.β r=E'.β c∧((r,c)∈borL (bnOf 0 as) ms∨(r=ρ c∧c∈yaW (gOut as os)))) ∨
      ((look r).isLive=true∧r ∉ srcs ms∧E2.β r=E.β r∧(ybo (gOut as os)=false→∀ T l,look r = .live (.row T l)→r ∉ rs)):=by
    intro r hl
    rcases hcase r with ⟨T,l,g1,_⟩ | ⟨g1,_⟩ | ⟨c,sh,y,g1,g2,g3,g4,g5,g6⟩ | ⟨c,o,o',g1,g2,g3,g4,g5⟩ | ⟨g1,g2,g3,g4,g5⟩
    · rw[g1]at hl;simp[Ent.isLive]at hl
    · rw[g1]at hl;simp[Ent.isLive]at hl
    · left
      exact⟨c,by rw[g3];rfl,(e2β r (hborq r c g2).2.1).trans (hback r c sh y g2 g3 g4 g5 g6).2.symm,.inl g2⟩
    · left
      exact⟨c,by rw[g4];rfl,by rw[g2];exact (e2n c g3).2.1,.inr ⟨g2,g3⟩⟩
    · right
      rw[g1]at hl
      exact⟨hl,g2,by simp only[E2,g4],g5⟩
  refine⟨E2,⟨λr => ?_,?_,?_,?_,?_,?_,h.gl.ext hx⟩,hx,?_⟩
  · rcases hcase r with ⟨T,l,g1,g2,g3,g4⟩ | ⟨g1,g2,g3⟩ | ⟨c,sh,y,g1,g2,g3,g4,g5,g6⟩ | ⟨c,o,o',g1,g2,g3,g4,g5⟩ | ⟨g1,g2,g3,g4,g5⟩
    · rw[g1]
      have hent:=h.ent r
      rw[g4]at hent
      have hne:look r ≠ .un:=by rw[g4];simp
      have hnk:r ∉ killL (bnOf 0 as) ms:=by
        intro hkm
        obtain⟨m,k1,k2,_⟩:=killL_mem hkm
        exact ybJ hq2 (ydJ k1 k2) g3
      refine⟨.inl hent.1,hent.2.ext hx (e2L r hne hnk) (e2β r hne) (λb hb => ?_),λb hb => ?_⟩
      · exact hp.keep.block b (s1 r g3 T l g4 b hb) (hent.2.lt hb)
      · rw[hS2 g2]
        rw[e2β r hne]at hb
        exact hsE b (s1 r g3 T l g4 b hb)
    · rw[g1]
      have hne:look r ≠ .un:=by
        intro hh
        have:=hqlive r g2
        rw[hh]at this;simp[Ent.isLive]at this
      exact⟨.inl ((h.U_iff r).2 hne),e2Lk r hne g3⟩
    · rw[g1]
      exact⟨.inl ((h.U_iff r).2 (hborq r c g2).2.1),(hback r c sh y g2 g3 g4 g5 g6).1⟩
    · rw[g1,g2]
      exact⟨(e2n c g3).1,hnewO c o o' g3 g4 g5⟩
    · rw[g1]
      have hL2:E2.L r=E.L r:=by
        simp only[E2,g4]
        rw[if_neg]
        intro hh;exact g3 (by simpa using hh)
      refine (h.ent r).ext' hx (by simp only[E2,g4];simp) hL2 (by simp only[E2,g4]) (λhh b hb => ?_)
      have hlt:=(h.ent r).lt hh hb
      cases hlr:look r with
      | un=>rw[hlr]at hh;simp[Ent.has]at hh
      | dead=>rw[hlr]at hh;simp[Ent.has]at hh
      | live o=>exact hp.keepP.block b (.inr ⟨r,g2,by rw[hlr];rfl,hb⟩) hlt
      | froz e l=>
        have hent:=h.ent r
        rw[hlr]at hent
        exact hp.keep.block b (x1.s b (hent.2.2 b hb)) hlt
  · intro r r' b hl hl' hb hb'
    rcases hcls r hl with ⟨c,k1,k2,k3⟩ | ⟨k1,k2,k3,_⟩
    · rcases hcls r' hl' with ⟨c',k1',k2',k3'⟩ | ⟨k1',k2',k3',_⟩
      · have hcc:=h'.inj c c' b k1 k1' (k2.symm.trans hb) (k2'.symm.trans hb')
        subst hcc
        rcases k3 with k3 | ⟨k3,k4⟩
        · rcases k3' with k3' | ⟨k3',k4'⟩
          · have e1:=findM_self hnm (ydt k3).1
            have e2:=findM_self hnm (ydt k3').1
            simp only[Mv.name]at e1 e2
            rw[e1]at e2
            injection e2 with e2
            injection e2
          · exact absurd k4' (ydW _ _ hn2 (hbx _ (ydt k3).2))
        · rcases k3' with k3' | ⟨k3',k4'⟩
          · exact absurd k4 (ydW _ _ hn2 (hbx _ (ydt k3').2))
          · rw[k3,k3']
      · exact absurd (.inr ⟨r',k2',k1',k3'.symm.trans hb'⟩) (h'.sep c b k1 (k2.symm.trans hb)).2
    · rcases hcls r' hl' with ⟨c',k1',k2',k3'⟩ | ⟨k1',k2',k3',_⟩
      · exact absurd (.inr ⟨r,k2,k1,k3.symm.trans hb⟩) (h'.sep c' b k1' (k2'.symm.trans hb')).2
      · exact h.inj r r' b k1 k1' (k3.symm.trans hb) (k3'.symm.trans hb')
  · intro r b hl hb
    rcases hcls r hl with ⟨c,k1,k2,k3⟩ | ⟨k1,k2,k3,k4⟩
    · obtain⟨g1,g2⟩:=h'.sep c b k1 (k2.symm.trans hb)
      exact⟨λhs=>g1 (e2S b hs),λhp'=>g2 (.inl hp')⟩
    · have hb':=k3.symm.trans hb
      refine⟨λhs => ?_,(h.sep r b k1 hb').2⟩
      by_cases hfl:ybo (gOut as os)=true
      · have:E2.S=E.S:=by simp only[E2];rw[if_pos hfl]
        rw[this]at hs
        exact (h.sep r b k1 hb').1 hs
      · have h9 := k4 (by simpa using hfl)
        rcases h'.s0 b (e2S b hs) with h8 | h8
        · have hl1:(updL (Va.shut look rs) look r).isLive=true:=by
            have hnot:updL (Va.shut look rs) look r=look r:=by
              rw[yc8]
              cases hf:findW r (Va.shut look rs) with
              | none=>rfl
              | some e=>
                obtain⟨g1,T,l,g2,_⟩:=shut_mem rs (findW_mem hf)
                exact absurd g1 (h9 T l g2)
            rw[hnot];exact k1
          exact (h1.sep r b hl1 ((b1 r).trans hb')).1 h8
        · exact h8 (.inr ⟨r,k2,k1,hb'⟩)
  · intro b hb;exact h'.sIn b (e2S b hb)
  · intro b hb;exact h'.pIn b (.inl hb)
  · intro b hb
    rcases h'.s0 b (e2S b hb) with h8 | h8
    · exact h1.s0 b h8
    · exact .inr (λhp'=>h8 (.inl hp'))
  · refine one_back _ _ x (outs_length _ _ _ _ _ _ _ _) (λvs hc => ?_) hv
    refine outs_back (flat:=ybo (gOut as os)) hS2 (g0:=gOut as os) (λr hr => ?_) os 0 u vs (λhf=>hf) (λc hm=>e2n c hm) hrf hnq hc
    have hm:=hσ r hr
    obtain⟨o,ho⟩:=boxesR_has (ρ:=ρ) (gOut as os) u hr
    obtain⟨sh,y,_,k2,_,_⟩:=boxesR_mem _ _ _ _ (findB_mem ho)
    have hent:=h'.ent r
    rw[heapOf_mem hn2 k2]at hent
    obtain⟨_,b,cs,t,fr,_,k2,_⟩:=hent
    obtain⟨_,g2,g3⟩:=hborq _ _ hm
    rcases (hbor _ _ hm).2 with hh | hh
    · rw[hh]at k2;exact absurd k2 (by simp)
    · exact⟨.inl ((h.U_iff _).2 g2),(e2β _ g2).trans hh.2.symm,(e2L _ g2 g3).trans hh.1.symm⟩
theorem bnd_some {α β:Type}{x:Option α}{k:α→Option β}{r:β}(h:bnd x k=some r):∃ u,x=some u∧k u=some r:=by
  unfold bnd at h
  split at h
  · exact absurd h (by simp)
  · rename_i u;exact⟨u,rfl,h⟩
theorem take_loc [Gl] {look look':Nat→Ent}:∀ (sh:Sh) (u:AV) (x:Den sh.ty) (rs:List Nat) (ms:List Mv),take look sh u=some (x,rs,ms)→(∀ q,q∈rs∨q∈srcs ms→look' q=look q)→take look' sh u=some (x,rs,ms)
  | .d T,u,x,rs,ms,h,hk=>by
    obtain⟨h1,rfl⟩:=take_d h
    simp only[take]
    rw[res_loc T _ _ _ h1 (λq hq=>hk q (.inl hq))]
  | .al r T,u,x,rs,ms,h,hk=>by
    obtain⟨e1,e2,e3⟩:=take_q h
    subst e1 e2 e3
    simp only[take,and_self,if_true]
  | .m r K V,u,x,rs,ms,h,hk=>by
    obtain⟨hr,q,eu,hl,em⟩:=take_m h
    subst hr eu em
    simp only[take,hk q (.inr (by simp[srcs])),hl]
    simp
  | .r r e,u,x,rs,ms,h,hk=>by
    obtain⟨hr,hc⟩:=take_r h
    subst hr
    rcases hc with ⟨e',eu,hx,em⟩ | ⟨q,eu,hl,em⟩ | ⟨q,k,l,eu,hl,hx,em⟩
    · subst eu hx em;rfl
    · subst eu em
      simp only[take,hk q (.inr (by simp[srcs])),hl]
      simp
    · subst eu hx em
      simp only[take,hk q (.inr (by simp[srcs])),hl]
      simp
  | .p a b, u,x,rs,ms,h,hk=>by
    cases u with
    | pr u1 u2=>
      simp only[take]at h
      split at h
      · exact absurd h (by simp)
      · rename_i y r1 m1 h1
        split at h
        · exact absurd h (by simp)
        · rename_i z r2 m2 h2
          injection h with h;injection h with e1 h;injection h with e2 e3
          subst e1 e2 e3
          have es:∀ q,q∈srcs m1∨q∈srcs m2→q∈srcs (m1++m2):=λq hq=>by
            rcases hq with hq | hq
            · obtain⟨m,k1,k2⟩:=srcs_inv hq;exact ydJ (List.mem_append.2 (.inl k1)) k2
            · obtain⟨m,k1,k2⟩:=srcs_inv hq;exact ydJ (List.mem_append.2 (.inr k1)) k2
          simp only[take]
          rw[take_loc a _ _ _ _ h1 (λq hq=>hk q (hq.imp (λh=>by simp[h]) (λh=>es q (.inl h)))),take_loc b _ _ _ _ h2 (λq hq=>hk q (hq.imp (λh=>by simp[h]) (λh=>es q (.inr h))))]
    | data T z=>
      cases T with
      | pair A B=>
        simp only[take]at h
        split at h
        · exact absurd h (by simp)
        · rename_i y r1 m1 h1
          split at h
          · exact absurd h (by simp)
          · rename_i y2 r2 m2 h2
            injection h with h;injection h with e1 h;injection h with e2 e3
            subst e1 e2 e3
            have es:∀ q,q∈srcs m1∨q∈srcs m2→q∈srcs (m1++m2):=λq hq=>by
              rcases hq with hq | hq
              · obtain⟨m,k1,k2⟩:=srcs_inv hq;exact ydJ (List.mem_append.2 (.inl k1)) k2
              · obtain⟨m,k1,k2⟩:=srcs_inv hq;exact ydJ (List.mem_append.2 (.inr k1)) k2
            simp only[take]
            rw[take_loc a _ _ _ _ h1 (λq hq=>hk q (hq.imp (λh=>by simp[h]) (λh=>es q (.inl h)))),take_loc b _ _ _ _ h2 (λq hq=>hk q (hq.imp (λh=>by simp[h]) (λh=>es q (.inr h))))]
      | _=>simp[take]at h
    | _=>simp[take]at h
theorem srcs_app [Gl]{a b:List Mv}{q:Nat}(h:q∈srcs a∨q∈srcs b):q∈srcs (a++b):=by
  rcases h with h | h
  · obtain⟨m,k1,k2⟩:=srcs_inv h;exact ydJ (List.mem_append.2 (.inl k1)) k2
  · obtain⟨m,k1,k2⟩:=srcs_inv h;exact ydJ (List.mem_append.2 (.inr k1)) k2
theorem extr_loc [Gl]{s:St}{look look':Nat→Ent}:∀ (g:List Si) (v:Dens g) (rs:List Nat) (ms:List Mv),extr s look g=some (v,rs,ms)→(∀ q,q∈rs∨q∈srcs ms→look' q=look q)→extr s look' g=some (v,rs,ms)
  | [],v,rs,ms,h,_=>h
  | .val i sh::g,v,rs,ms,h,hk=>by
    obtain⟨r1,r2,m1,m2,e1,e2,h1,h2⟩:=extr_val h
    subst e1 e2
    simp only[extr]
    rw[take_loc sh _ _ _ _ h1 (λq hq=>hk q (hq.imp (λh=>by simp[h]) (λh=>srcs_app (.inl h)))),extr_loc g _ _ _ h2 (λq hq=>hk q (hq.imp (λh=>by simp[h]) (λh=>srcs_app (.inr h))))]
  | .ref i r T::g,v,rs,ms,h,hk=>by
    obtain⟨h1,h2⟩:=extr_ref h
    simp only[extr,h1]
    simp
    exact extr_loc g _ _ _ h2 hk
  | .box r sh::g,v,rs,ms,h,hk=>by
    obtain⟨c,r1,r2,m1,m2,hl,e1,e2,h1,h2⟩:=extr_box h
    subst e1 e2
    simp only[extr]
    rw[hk r (.inr (by simp[srcs])),hl]
    simp only[if_true]
    rw[take_loc sh _ _ _ _ h1 (λq hq=>hk q (hq.imp (λh=>by simp[h]) (λh=>List.mem_cons_of_mem _ (srcs_app (.inl h))))),extr_loc g _ _ _ h2 (λq hq=>hk q (hq.imp (λh=>by simp[h]) (λh=>List.mem_cons_of_mem _ (srcs_app (.inr h)))))]
  | .bor i c r sh::g,v,rs,ms,h,hk=>by
    obtain⟨q0,u,r1,r2,m1,m2,h0,hl,e1,e2,h1,h2⟩:=extr_bor h
    subst e1 e2
    simp only[extr,h0]
    rw[hk q0 (.inr (by simp[srcs])),hl]
    simp only[and_self,if_true]
    rw[take_loc sh _ _ _ _ h1 (λq hq=>hk q (hq.imp (λh=>by simp[h]) (λh=>List.mem_cons_of_mem _ (srcs_app (.inl h))))),extr_loc g _ _ _ h2 (λq hq=>hk q (hq.imp (λh=>by simp[h]) (λh=>List.mem_cons_of_mem _ (srcs_app (.inr h)))))]
  | .clo i f qs::g,v,rs,ms,h,hk=>by
    obtain⟨caps,h1,h3,h2⟩:=extr_clo h
    simp only[extr,h1,h3]
    simp
    exact extr_loc g _ _ _ h2 hk
theorem shut_loc' {look look':Nat→Ent}:∀ (rs:List Nat),(∀ q∈rs,look' q=look q)→shut look' rs=shut look rs
  | [],_=>rfl
  | r::t,h=>by
    unfold Va.shut
    rw[h r (by simp),shut_loc' t (λq hq=>h q (by simp[hq]))]
theorem cap_mv [Gl]{s:St}{look:Nat→Ent}{j:Nat}{g:List Si}{l:List Nat}(hg:∀ (v:Dens g)(rs:List Nat)(ms:List Mv),extr s look g=some (v,rs,ms)→∀ c∈l,∃ q,.mv c q∈ms) :
    ∀ (k:Nat) (caps:List Sh) (v:Dens (capSig j k caps g)) (rs:List Nat) (ms:List Mv),extr s look (capSig j k caps g)=some (v,rs,ms)→∀ c∈capNames j k caps l,∃ q,.mv c q∈ms
  | _,[],v,rs,ms,h,c,hc=>hg v rs ms h c hc
  | k,sh::caps,v,rs,ms,h,c,hc=>by
    obtain⟨q0,u,r1,r2,m1,m2,h0,hl,e1,e2,h1,h2⟩:=extr_bor h
    subst e1 e2
    simp only[capNames,List.mem_cons]at hc
    rcases hc with rfl | hc
    · exact⟨q0,List.mem_cons_self⟩
    · obtain⟨q,hq⟩:=cap_mv hg (k+1) caps _ _ _ h2 c hc
      exact⟨q,List.mem_cons_of_mem _ (List.mem_append.2 (.inr hq))⟩
theorem bn_mv [Gl]{s:St}{look:Nat→Ent}:∀ (as:List Ai) (j:Nat) (v:Dens (inSig j as)) (rs:List Nat) (ms:List Mv),extr s look (inSig j as)=some (v,rs,ms)→∀ c∈bnOf j as,∃ q,.mv c q∈ms
  | [],j,v,rs,ms,h,c,hc=>by simp[bnOf]at hc
  | .val sh::as,j,v,rs,ms,h,c,hc=>by
    obtain⟨r1,r2,m1,m2,e1,e2,h1,h2⟩:=extr_val h
    subst e1 e2
    obtain⟨q,hq⟩:=bn_mv as (j+1) _ _ _ h2 c hc
    exact⟨q,List.mem_append.2 (.inr hq)⟩
  | .ptr sh::as,j,v,rs,ms,h,c,hc=>by
    obtain⟨q0,u,r1,r2,m1,m2,h0,hl,e1,e2,h1,h2⟩:=extr_bor h
    subst e1 e2
    simp only[bnOf,List.mem_cons]at hc
    rcases hc with rfl | hc
    · exact⟨q0,List.mem_cons_self⟩
    · obtain⟨q,hq⟩:=bn_mv as (j+1) _ _ _ h2 c hc
      exact⟨q,List.mem_cons_of_mem _ (List.mem_append.2 (.inr hq))⟩
  | .fn f caps::as,j,v,rs,ms,h,c,hc=>by
    obtain⟨_,_,_,h2⟩:=extr_clo h
    exact cap_mv (λv rs ms he=>bn_mv as (j+1) v rs ms he) 0 caps _ _ _ h2 c hc
theorem put_args [Gl]:∀ (as:List Ai) (j:Nat) (v:Dens (inSig j as)) (l:List AV),j+as.length≤l.length→∀ (i:Nat) (a:AV),(ydp j as v)[i]?=some a→getAt .bad (ydj (inSig j as) v l) (j+i)=a
  | [],j,v,l,hl,i,a,hi=>by simp[ydp]at hi
  | .val sh::as,j,v,l,hl,i,a,hi=>by
    simp only[inSig,ydj,ybI,yc1]
    cases i with
    | zero=>
      simp only[ydp,List.getElem?_cons_zero]at hi
      injection hi with hi
      rw[if_pos ⟨by omega,by simp at hl;omega⟩];exact hi
    | succ i=>
      rw[if_neg (by omega),show j+(i+1)=j+1+i by omega]
      exact put_args as (j+1) v.2 l (by simp at hl;omega) i a (by simpa[ydp]using hi)
  | .ptr sh::as,j,v,l,hl,i,a,hi=>by
    simp only[inSig,ydj,ybI,yc1]
    cases i with
    | zero=>
      simp only[ydp,List.getElem?_cons_zero]at hi
      injection hi with hi
      rw[if_pos ⟨by omega,by simp at hl;omega⟩];exact hi
    | succ i=>
      rw[if_neg (by omega),show j+(i+1)=j+1+i by omega]
      exact put_args as (j+1) v.2 l (by simp at hl;omega) i a (by simpa[ydp]using hi)
  | .fn f caps::as,j,v,l,hl,i,a,hi=>by
    simp only[inSig,ydj,ybI,yc1]
    cases i with
    | zero=>
      simp only[ydp,List.getElem?_cons_zero]at hi
      injection hi with hi
      rw[if_pos ⟨by omega,by simp at hl;omega⟩];exact hi
    | succ i=>
      rw[if_neg (by omega),show j+(i+1)=j+1+i by omega,cap_put]
      exact put_args as (j+1) _ l (by simp at hl;omega) i a (by simpa[ydp]using hi)
theorem listAV_mk {E:Env}{w:World}:∀ (l:List AV) (vs:List Value),l.length=vs.length→(∀ (i:Nat) (a:AV),l[i]?=some a→V E w a (vs.getD i undef))→C E w (ycn l) vs
  | [],[],_,_=>rfl
  | [],_::_,h,_=>by simp at h
  | _::_,[],h,_=>by simp at h
  | a::l,x::vs,h,hv=>by
    refine⟨x,vs,rfl,?_,listAV_mk l vs (by simpa using h) (λi a hi=>by simpa using hv (i+1) a (by simpa using hi))⟩
    have:=hv 0 a (by simp)
    simpa[V]using this
theorem cap_box {r j:Nat}{g:List Si}{l:List Nat}:∀ (c:Nat) (caps:List Sh),ycG r (capBox j c caps g)=true→(ycG r g=true→r∈l)→r∈capNames j c caps l
  | _,[],h,hg=>hg h
  | c,sh::caps,h,hg=>by
    simp only[capBox,ycG,Bool.or_eq_true,beq_iff_eq]at h
    simp only[capNames,List.mem_cons]
    exact h.imp Eq.symm λh=>cap_box (c+1) caps h hg
theorem boxSig_bn {r:Nat}:∀ (as:List Ai) (j:Nat),ycG r (boxSig j as)=true→r∈bnOf j as
  | [],_,h=>by simp[boxSig,ycG]at h
  | .val _::as,j,h=>boxSig_bn as (j+1) h
  | .ptr sh::as,j,h=>by
    simp only[boxSig,ycG,Bool.or_eq_true,beq_iff_eq]at h
    simp only[bnOf,List.mem_cons]
    exact h.imp Eq.symm λh=>boxSig_bn as (j+1) h
  | .fn _ caps::as,j,h=>cap_box 0 caps h (boxSig_bn as (j+1))
theorem outSig_box {r:Nat}{g:List Si}:∀ (os:List (Nat×Oi)) (j:Nat),ycG r (yc0 j os g)=true→ycG r g=true
  | [],_,h=>h
  | (_,⟨_,_,.v⟩)::os,j,h=>outSig_box os (j+1) h
  | (_,⟨_,_,.new _⟩)::os,j,h=>outSig_box os (j+1) h
  | (_,⟨_,_,.arg _ _⟩)::os,j,h=>outSig_box os (j+1) h
theorem gOut_box {r:Nat}{as:List Ai}(os:List (Nat×Oi))(h:ycG r (gOut as os)=true):r∈bnOf 0 as:=boxSig_bn as 0 (outSig_box os 0 h)
theorem borL_in {bn:List Nat}{c q:Nat}:∀ {ms:List Mv},.mv c q∈ms→c∈bn→(q,c)∈borL bn ms
  | [],h,_=>by simp at h
  | .mv c' q'::ms,h,hc=>by
    simp only[borL]
    rcases List.mem_cons.1 h with h | h
    · injection h with e1 e2
      subst e1 e2
      rw[if_pos (by simpa using hc)]
      exact List.mem_cons_self
    · split
      · exact List.mem_cons_of_mem _ (borL_in h hc)
      · exact borL_in h hc
  | .cutm _ _ _::ms,h,hc=>by
    rcases List.mem_cons.1 h with h | h
    · injection h
    · exact borL_in (ms:=ms) h hc
  | .nilm _ _::ms,h,hc=>by
    rcases List.mem_cons.1 h with h | h
    · injection h
    · exact borL_in (ms:=ms) h hc
theorem yai [Gl] {fid : Nat} {as:List Ai} {os:List (Nat×Oi)} {f:DIn as→Option (DOut as os)} (hf:FnOk P fid as os f):EntryOk P (yaw fid as os f):=by
  refine⟨hf.fn,λR n dst args look k r h => ?_⟩
  simp only[yaw]at h
  split at h
  · rename_i hc
    obtain⟨hlen,hso⟩:=hc
    split at h
    · exact absurd h (by simp)
    · rename_i v rs ms he
      split at h
      · rename_i hc2
        obtain⟨hq1,hq2⟩:=hc2
        obtain⟨u,hu,h⟩:=bnd_some h
        split at h
        · rename_i hun
          have hun':∀ c∈yaW (gOut as os),look (nmN dst c) = .un:=λc hp=>by
            have:=List.all_eq_true.1 hun c hp
            cases hl:look (nmN dst c)<;>rw[hl]at this<;>simp[Ent.isUn]at this<;>rfl
          refine⟨_,_,_,h,λP0 S0 E w vals hh hcc => ?_,λlook' hk R' k' => ?_⟩
          · obtain⟨E1,h1,x1,b1,l1,s1⟩:=HREL.shuts (look:=look) rs E look hh (λr _ => .inl rfl)
            obtain⟨hl,hg⟩:=listAV_get _ _ hcc
            have hsame:∀ q∈srcs ms,updL (Va.shut look rs) look q=look q:=by
              intro q hq
              rw[yc8]
              have:q ∉ (Va.shut look rs).map Prod.fst:=by
                intro hh
                obtain⟨⟨q',e⟩,h2,h3⟩:=List.mem_map.1 hh
                simp only at h3;subst h3
                exact ybJ hq2 hq (shut_mem rs h2).1
              rw[ydA this]
            have hso':=hso
            unfold sigsOk at hso'
            simp only[Bool.and_eq_true]at hso'
            obtain⟨⟨⟨⟨⟨hn1,hn2⟩,hrf⟩,hrf2⟩,hnq⟩,hbx⟩:=hso'
            have hnm:nodup (ms.map Mv.name)=true:=by rw[extr_names _ _ _ _ he];exact hn1
            obtain⟨g1,g5⟩:=cut_heap (s:=⟨args,[]⟩) hh h1 x1 b1 s1 (P1:=λb=>P0 b∨∃ r,r ∉ srcs ms∧(look r).isLive=true∧E.β r=some b) (S1:=E1.S)
              (λb hb=>by
                rcases hb with hb | ⟨r,_,hr1,hr2⟩
                · exact hh.pIn b hb
                · exact (hh.ent r).lt (by cases hlr:look r<;>rw[hlr]at hr1<;>simp[Ent.isLive,Ent.has]at hr1 ⊢) hr2)
              (λb hb => .inl hb) he (λ_ h=>h) hsame
              (λq hq b hl hb=>by
                rintro (hb' | ⟨r,hr0,hr1,hr2⟩)
                · exact (hh.sep q b hl hb).2 hb'
                · exact hr0 (hh.inj r q b hr1 hl hr2 hb ▸ hq)) hn1 hq1 hrf
            have hsr:SREL E w args vals.toArray:=by
              refine⟨by simpa using hl,λt => ?_⟩
              by_cases ht:t<args.length
              · have e:args[t]?=some (getAt .bad args t):=by
                  have:∀ (l:List AV) (i:Nat),i<l.length→l[i]?=some (getAt .bad l i):=by
                    intro l
                    induction l with
                    | nil=>intro i hi;simp at hi
                    | cons x l ih=>
                      intro i hi
                      cases i with
                      | zero=>rfl
                      | succ i=>simp only[List.getElem?_cons_succ,getAt];exact ih i (by simpa using hi)
                  exact this args t ht
                have:=hg t _ e
                simpa using this
              · rw[getAt_ge _ _ _ (by omega)];exact .bad
            have hslots:=extr_slots (E':=cutE E E1.S ms) (s:=⟨args,[]⟩) (l:=List.replicate vals.length .bad) hh hsr x1 s1 rfl (g0:=inSig 0 as) (λr hb=>g5 _ (hasBox_mv _ v rs ms he hb))
              (λi j r hb=>by obtain⟨q,T,k1,k2⟩:=hasBor_mv _ v rs ms he hb;exact⟨q,T,k1,g5 _ k2⟩)
              ⟨by simp,λt=>by rw[replicate_bad];exact .bad⟩ (inSig 0 as) v rs ms he (λ_ h=>h) hrf g5
            have hargs:C (cutE E E1.S ms) w (ycn (ydp 0 as v)) vals:=by
              refine listAV_mk _ _ (by rw[ydK,← hl,hlen]) (λi a hi => ?_)
              have:=hslots.val (0+i)
              rw[put_args as 0 v _ (by simp;omega) i a hi,Nat.zero_add]at this
              simpa using this
            refine Calls.mono (hf.run v u hu _ E1.S _ w vals g1 hargs) ?_
            rintro en w' ⟨E',x,rfl,k1,k2,k3⟩
            exact⟨x,rfl,entry_post hh (extr_live _ _ _ _ he) hnm hq1 hq2 (λm hm hmn=>by
              obtain⟨q,hq⟩:=bn_mv as 0 v rs ms he _ hmn
              have e1:=findM_self hnm hm
              have e2:findM m.name ms=some (.mv m.name q):=findM_self hnm hq
              rw[e1]at e2
              injection e2 with e2
              exact⟨_,_,e2⟩) hn2 (λr hr=>List.all_eq_true.1 hbx r hr) hrf2 hnq (λr hr=>by
              have hb:=gOut_box os hr
              obtain⟨q,hq⟩:=bn_mv as 0 v rs ms he r hb
              have e2:findM r ms=some (.mv r q):=findM_self hnm hq
              have:sgm ms r=q:=by unfold sgm;rw[e2]
              rw[this]
              exact borL_in hq hb) h1 x1 b1 s1 hun' (λi j e=>by unfold nmN at e;omega) k1 k2 g5 k3⟩
          · have hkill:∀ q,q∈rs∨q∈srcs ms→look' q=look q:=λq hq=>hk q (.inl (by simp only[List.mem_append];exact .inl hq))
            simp only[yaw]
            rw[if_pos ⟨hlen,hso⟩,extr_loc _ v rs ms he hkill]
            simp only[]
            rw[if_pos ⟨hq1,hq2⟩,hu]
            simp only[bnd,wnOf]
            rw[shut_loc' rs (λq hq=>hkill q (.inl hq)),if_pos]
            refine List.all_eq_true.2 (λc hp => ?_)
            rw[hk (nmN dst c) (.inl (by simp only[List.mem_append];exact .inr (List.mem_map.2 ⟨c,hp,rfl⟩)))]
            exact List.all_eq_true.1 hun c hp
        · exact absurd h (by simp)
      · exact absurd h (by simp)
  · exact absurd h (by simp)
end
end Go.Va
