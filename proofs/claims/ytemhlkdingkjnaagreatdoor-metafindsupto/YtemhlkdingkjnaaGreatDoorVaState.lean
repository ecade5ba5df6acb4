/-
  Va, part 2: abstract values, the abstract heap, and what it means that they stand for a frame and a world.
-/
import Derived.Test.YtemhlkdingkjnaaGreatDoorVaBase
set_option linter.unusedVariables false
set_option linter.unusedSimpArgs false
namespace Go.Va
open Go
inductive Stp where
  | f (j:Nat)
  | i (n:Nat)
inductive Ly where
  | box (T:Ty)
  | row (e:Ty)
  | mp (K V:Ty)
inductive AV where
  | bad
  | data (T:Ty) (x:Den T)
  | nils (e:Ty)
  | rp (T:Ty) (x:Den T)
  /-- a pointer to a variable that is shut and holds this -/
  | cp (v:AV)
  | po (r:Nat) (l:Ly) (p:List Stp)
  | ow (r:Nat) (e:Ty) (rng:Option (Nat×Nat))
  | oa (r:Nat) (T:Ty) (p:List Stp)
  | pr (a b:AV)
  | fn (f:FuncId) (caps:AV)
  | tup (l:AV)
  | done
  | cons (a b:AV)
  | unk (c neg:Bool)
  | mp (r:Nat) (K V:Ty)
  | fb (f:FuncId) (args:AV)
inductive Obj' where
  | box (T:Ty) (c:AV)
  | row (e:Ty) (l:List (Den e))
  | mp (K V:Ty) (l:List (Den K×Den V))
inductive Ent where
  | un
  | live (o:Obj')
  | froz (e:Ty) (l:List (Den e))
  | dead
def AV.isAgg:AV→Bool
  | .data T _=>T.agg
  | .pr _ _=>true
  | _=>false
def AV.ty:AV→Option Ty
  | .data T _=>some T
  | .nils e=>some (.slice e)
  | .rp _ _=>some (.opq 0)
  | .cp _=>some (.opq 0)
  | .po _ _ _=>some (.opq 0)
  | .ow _ e _=>some (.slice e)
  | .pr a b=>match a.ty,b.ty with
    | some A,some B=>some (.pair A B)
    | _,_=>none
  | .fn _ _=>some (.opq 1)
  | .fb _ _=>some (.opq 1)
  | .mp _ K V=>some (.mapT K V)
  | _=>none
def offT:Ty→List Stp→Option Nat
  | _,[]=>some 0
  | .arr k e,.i n::p=>if n<k then (offT e p).map (n*e.sz + ·) else none
  | .pair a _,.f 0::p=>offT a p
  | .pair a b,.f (j+1)::p=>(offT b (.f j::p)).map (a.sz + ·)
  | _,_=>none
def offL (M:Nat):Ly→List Stp→Option Nat
  | .box T,p=>offT T p
  | .row e,.i n::p=>if n<M then (offT e p).map (n*e.sz + ·) else none
  | .row _,_=>none
  | .mp _ _,_=>none
def tyT:Ty→List Stp→Option Ty
  | T,[]=>some T
  | .arr _ e,.i _::p=>tyT e p
  | .pair a _,.f 0::p=>tyT a p
  | .pair _ b,.f (j+1)::p=>tyT b (.f j::p)
  | _,_=>none
structure Lay where
  ly:Ly
  /-- cells of its block -/
  N:Nat
  /-- elements of a row -/
  M:Nat
structure Env where
  β:Nat→Option Nat
  L:Nat→Option Lay
  U:Nat→Prop
  S:Nat→Prop
def C (E:Env) (w:World):AV→List Value→Prop
  | .bad,_=>True
  | .data T x,cs=>Rd E.S w T x cs
  | .nils _,cs=>cs=[.slice none 0 0]
  | .rp T x,cs=>∃ ad cells,cs=[.pointer (some ad)]∧E.S ad.block∧Rd E.S w T x cells∧At w ad cells
  | .cp v,cs=>∃ ad cells,cs=[.pointer (some ad)]∧E.S ad.block∧C E w v cells∧At w ad cells
  | .po r l p,cs=>∃ a,cs=[.pointer (some a)]∧E.U r∧∀ L,E.L r=some L→L.ly=l ∧
      ∃ b off,E.β r=some b∧offL L.M l p=some off∧a=⟨b,off,none⟩
  | .ow r e rng,cs=>∃ a len cap,cs=[.slice a len cap]∧E.U r∧∀ L,E.L r=some L→L.ly = .row e ∧
      ∃ lo,(match rng with | none=>lo=0∧len=L.M | some (x,y)=>lo=x∧len=y)∧lo+len≤L.M ∧
        (match E.β r with
          | some b=>(cap=0∨a=some ⟨b,lo*e.sz,none⟩)∧len≤cap∧(lo+cap)*e.sz≤L.N∧L.M≤lo+cap
          | none=>cap=0)
  | .oa r T p,cs=>∃ a k,cs=[.slice a k k]∧E.U r∧∀ L,E.L r=some L→L.ly = .box T ∧
      ∃ b off e,E.β r=some b∧tyT T p=some (.arr k e)∧offT T p=some off∧a=some ⟨b,off,none⟩
  | .pr a b,cs=>∃ c1 c2,cs=c1++c2∧C E w a c1∧C E w b c2
  | .fn f l,cs=>∃ vs,cs=[.func (.func f) #[] vs]∧C E w l vs.toList
  | .tup l,cs=>∃ vs,cs=[.tuple vs]∧C E w l vs.toList
  | .unk c neg,cs=>∃ b,cs=[.bool b]∧(b=neg∨c=true)
  | .mp r K V,cs=>∃ a,cs=[.map (some a)]∧E.U r∧∀ L,E.L r=some L→L.ly = .mp K V∧E.β r=some a
  | .fb f l,cs=>∃ vs,cs=[.func (.func f) vs #[]]∧C E w l vs.toList
  | .done,cs=>cs=[]
  | .cons a b,cs=>∃ x vs,cs=x::vs∧(if a.isAgg then ∃ c,x = .agg c∧C E w a c.toList else C E w a [x])∧C E w b vs
def V (E:Env)(w:World)(v:AV)(x:Value):Prop:=if v.isAgg then ∃ c,x = .agg c∧C E w v c.toList else C E w v [x]
structure Ext (P0:Nat→Prop)(E:Env)(w:World)(E':Env)(w':World):Prop where
  s:∀ b,E.S b→E'.S b
  keep:Keep E.S w w'
  keepP:Keep P0 w w'
  obj:∀ r,E.U r→E'.U r∧(E'.L r=none∨(E'.L r=E.L r∧E'.β r=E.β r))
theorem Ext.refl (P0:Nat→Prop)(E:Env)(w:World):Ext P0 E w E w:=⟨λ_ h=>h,.refl _ _,.refl _ _,λ_ h=>⟨h,.inr ⟨rfl,rfl⟩⟩⟩
theorem Ext.trans {P0:Nat→Prop}{E E' E'':Env}{w w' w'':World}(h:Ext P0 E w E' w')(k:Ext P0 E' w' E'' w''):Ext P0 E w E'' w'':=by
  refine⟨λb hb=>k.s b (h.s b hb),h.keep.trans (k.keep.mono h.s),h.keepP.trans k.keepP,λr hr => ?_⟩
  obtain⟨h1,h2⟩:=h.obj r hr
  obtain⟨k1,k2⟩:=k.obj r h1
  refine⟨k1,?_⟩
  rcases k2 with k2 | ⟨k2,k3⟩
  · exact .inl k2
  · rcases h2 with h2 | ⟨h2,h3⟩
    · exact .inl (k2.trans h2)
    · exact .inr ⟨k2.trans h2,k3.trans h3⟩
theorem C.ext {P0:Nat→Prop}{E E':Env}{w w':World}(h:Ext P0 E w E' w'):∀ (v:AV) (cs:List Value),C E w v cs→C E' w' v cs
  | .bad,_,_=>trivial
  | .data T x,cs,k=>Rd.keep h.keep h.s T x cs k
  | .nils _,_,k=>k
  | .rp T x,_,⟨ad,cells,e,hb,h1,h2⟩=>⟨ad,cells,e,h.s _ hb,Rd.keep h.keep h.s T x _ h1,h.keep.at hb h2⟩
  | .cp v,_,⟨ad,cells,e,hb,h1,h2⟩=>⟨ad,cells,e,h.s _ hb,C.ext h v _ h1,h.keep.at hb h2⟩
  | .po r l p,_,⟨a,e,hu,k⟩=>by
    obtain⟨h1,h2⟩:=h.obj r hu
    refine⟨a,e,h1,λL hL => ?_⟩
    rcases h2 with h2 | ⟨h2,h3⟩
    · rw[h2]at hL;exact absurd hL (by simp)
    · rw[h3];exact k L (h2 ▸ hL)
  | .ow r e rng,_,⟨a,len,cap,ee,hu,k⟩=>by
    obtain⟨h1,h2⟩:=h.obj r hu
    refine⟨a,len,cap,ee,h1,λL hL => ?_⟩
    rcases h2 with h2 | ⟨h2,h3⟩
    · rw[h2]at hL;exact absurd hL (by simp)
    · rw[h3];exact k L (h2 ▸ hL)
  | .oa r T p,_,⟨a,n,e,hu,k⟩=>by
    obtain⟨h1,h2⟩:=h.obj r hu
    refine⟨a,n,e,h1,λL hL => ?_⟩
    rcases h2 with h2 | ⟨h2,h3⟩
    · rw[h2]at hL;exact absurd hL (by simp)
    · rw[h3];exact k L (h2 ▸ hL)
  | .pr a b,_,⟨c1,c2,e,h1,h2⟩=>⟨c1,c2,e,C.ext h a _ h1,C.ext h b _ h2⟩
  | .fn f l,_,⟨vs,e,h1⟩=>⟨vs,e,C.ext h l _ h1⟩
  | .tup l,_,⟨vs,e,h1⟩=>⟨vs,e,C.ext h l _ h1⟩
  | .unk _ _,_,k=>k
  | .mp r K V,_,⟨a,e,hu,k⟩=>by
    obtain⟨h1,h2⟩:=h.obj r hu
    refine⟨a,e,h1,λL hL => ?_⟩
    rcases h2 with h2 | ⟨h2,h3⟩
    · rw[h2]at hL;exact absurd hL (by simp)
    · rw[h3];exact k L (h2 ▸ hL)
  | .fb f l,_,⟨vs,e,h1⟩=>⟨vs,e,C.ext h l _ h1⟩
  | .done,_,k=>k
  | .cons a b,_,⟨x,vs,e,h1,h2⟩=>by
    refine⟨x,vs,e,?_,C.ext h b _ h2⟩
    split at h1
    · rename_i ha;rw[if_pos ha];obtain⟨c,hc,h1⟩:=h1;exact⟨c,hc,C.ext h a _ h1⟩
    · rename_i ha;rw[if_neg ha];exact C.ext h a _ h1
theorem V.ext {P0:Nat→Prop}{E E':Env}{w w':World}(h:Ext P0 E w E' w')(v:AV)(x:Value)(k:V E w v x):V E' w' v x:=by
  unfold V at *
  split at k
  · rename_i ha;rw[if_pos ha];obtain⟨c,hc,k⟩:=k;exact⟨c,hc,C.ext h v _ k⟩
  · rename_i ha;rw[if_neg ha];exact C.ext h v _ k
theorem C.length {E:Env}{w:World}:∀ (v:AV) (cs:List Value) (T:Ty),C E w v cs→v.ty=some T→cs.length=T.sz
  | .bad,_,_,_,h=>by simp[AV.ty]at h
  | .data T x,cs,_,k,h=>by simp[AV.ty]at h;subst h;exact Rd.length _ _ _ _ _ k
  | .nils _,_,_,k,h=>by simp only[C]at k;simp[AV.ty]at h;subst h k;rfl
  | .rp T x,_,_,⟨ad,cells,e,_⟩,h=>by simp[AV.ty]at h;subst h e;rfl
  | .cp v,_,_,⟨ad,cells,e,_⟩,h=>by simp[AV.ty]at h;subst h e;rfl
  | .po r l p,_,_,⟨a,e,_⟩,h=>by simp[AV.ty]at h;subst h e;rfl
  | .ow r e rng,_,_,⟨a,len,cap,ee,_⟩,h=>by simp[AV.ty]at h;subst h ee;rfl
  | .oa r T p,_,_,_,h=>by simp[AV.ty]at h
  | .pr a b,_,T,⟨c1,c2,e,h1,h2⟩,h=>by
    simp only[AV.ty]at h
    split at h
    · rename_i A B hA hB
      simp at h;subst h e
      rw[List.length_append,C.length a _ _ h1 hA,C.length b _ _ h2 hB];rfl
    · exact absurd h (by simp)
  | .fn f l,_,_,⟨vs,e,h1⟩,h=>by simp[AV.ty]at h;subst h e;rfl
  | .tup l,_,_,_,h=>by simp[AV.ty]at h
  | .unk _ _,_,_,_,h=>by simp[AV.ty]at h
  | .mp r K V,_,_,⟨a,e,_⟩,h=>by simp[AV.ty]at h;subst h e;rfl
  | .fb f l,_,_,⟨vs,e,h1⟩,h=>by simp[AV.ty]at h;subst h e;rfl
  | .done,_,_,_,h=>by simp[AV.ty]at h
  | .cons a b,_,_,_,h=>by simp[AV.ty]at h
def NoFr (n:Nat)(fr:Nat×Nat):Prop:=fr.1=fr.2∨n≤fr.1
theorem NoFr.not {n:Nat}{fr:Nat×Nat}(h:NoFr n fr):∀ j,j<n→¬ (fr.1≤j∧j<fr.2):=by
  intro j hj hh
  rcases h with h | h<;>omega
def MpL (E:Env)(w:World)(K V:Ty):List (Den K×Den V)→List MapEntry→Prop
  | [],es=>es=[]
  | p::l,es=>∃ e r,es=e::r∧Va.V E w (.data K p.1) e.key∧Va.V E w (.data V p.2) e.val∧MpL E w K V l r
theorem MpL.ext {P0:Nat→Prop}{E E':Env}{w w':World}{K V:Ty}(h:Ext P0 E w E' w'):∀ (l:List (Den K×Den V)) (es:List MapEntry),MpL E w K V l es→MpL E' w' K V l es
  | [],_,k=>k
  | _::l,_,⟨e,r,h1,h2,h3,h4⟩=>⟨e,r,h1,Va.V.ext h _ _ h2,Va.V.ext h _ _ h3,MpL.ext h l r h4⟩
def StampL (es:List MapEntry)(ck:Nat):Prop:=(∀ e∈es,e.born<ck)∧es.Pairwise λx y=>x.born≠y.born
def OREL (E:Env) (w:World) (r:Nat):Obj'→Prop
  | .mp K V l=>∃ b es ck,E.β r=some b∧E.L r=some ⟨.mp K V,0,0⟩∧w.heap[b]?=some (.map es ck)∧MpL E w K V l es.toList∧StampL es.toList ck
  | .box T c=>∃ b cs t fr,E.β r=some b∧E.L r=some ⟨.box T,cs.size,0⟩∧w.heap[b]?=some (.cells cs t fr)∧NoFr cs.size fr ∧
      c.ty=some T∧C E w c cs.toList
  | .row e l=>∃ N,E.L r=some ⟨.row e,N,l.length⟩∧match E.β r with
    | some b=>∃ cs t fr c1 c2,w.heap[b]?=some (.cells cs t fr)∧NoFr cs.size fr∧cs.size=N∧cs.toList=c1++c2∧RdL (Rd E.S w e) l c1
    | none=>l=[]
def EREL (E:Env)(w:World)(r:Nat):Ent→Prop
  | .un=>¬ E.U r∧E.L r=none
  | .dead=>E.U r∧E.L r=none
  | .live o=>E.U r∧OREL E w r o
  | .froz e l=>E.U r∧OREL E w r (.row e l)∧∀ b,E.β r=some b→E.S b
def Ent.isLive:Ent→Bool
  | .live _=>true
  | _=>false
class Gl where
  tab:List (Nat×(List Value→Prop))
  /-- blocks that are told whole -/
  ex:List (Nat×(Obj→Prop))
def GlOk [Gl](E:Env)(w:World):Prop:=(∀ p∈Gl.tab,E.S p.1∧∃ cs,p.2 cs∧At w ⟨p.1,0,none⟩ cs)∧∀ p∈Gl.ex,E.S p.1∧∃ o,w.heap[p.1]?=some o∧p.2 o
theorem GlOk.ext [Gl]{P0:Nat→Prop}{E E':Env}{w w':World}(h:Ext P0 E w E' w')(g:GlOk E w):GlOk E' w':=
  ⟨λp hp=>⟨h.s _ (g.1 p hp).1,(g.1 p hp).2.imp λ_ hc=>⟨hc.1,h.keep.at (g.1 p hp).1 hc.2⟩⟩,λp hp=>by
    obtain⟨h1,o,h2,h3⟩:=g.2 p hp
    refine⟨h.s _ h1,o,?_,h3⟩
    rw[h.keep.block _ h1 ?_]
    · exact h2
    · rcases Nat.lt_or_ge p.1 w.heap.size with hl | hl
      · exact hl
      · rw[Array.getElem?_eq_none hl]at h2;exact absurd h2 (by simp)⟩
structure HREL [Gl](P0 S0:Nat→Prop)(E:Env)(look:Nat→Ent)(w:World):Prop where
  ent:∀ r,EREL E w r (look r)
  inj:∀ r r' b,(look r).isLive=true→(look r').isLive=true→E.β r=some b→E.β r'=some b→r=r'
  sep:∀ r b,(look r).isLive=true→E.β r=some b→¬ E.S b∧¬ P0 b
  sIn:∀ b,E.S b→b<w.heap.size
  pIn:∀ b,P0 b→b<w.heap.size
  s0:∀ b,E.S b→S0 b∨¬ P0 b
  gl:GlOk E w
theorem EREL.ext {P0:Nat→Prop} {E E':Env} {w w':World} {r:Nat} {e:Ent} (h:Ext P0 E w E' w') (hU:E'.U r↔E.U r) (hL:E'.L r=E.L r) (hβ:E'.β r=E.β r)
    (hw:∀ b,E.β r=some b→w'.heap[b]?=w.heap[b]?) (k:EREL E w r e):EREL E' w' r e:=by
  cases e with
  | un=>exact⟨λhu=>k.1 (hU.1 hu),hL.trans k.2⟩
  | dead=>exact⟨hU.2 k.1,hL.trans k.2⟩
  | live o=>
    refine⟨hU.2 k.1,?_⟩
    have k2:=k.2
    cases o with
    | box T c=>
      obtain⟨b,cs,t,fr,h1,h2,h3,h4,h5,h6⟩:=k2
      exact⟨b,cs,t,fr,hβ.trans h1,hL.trans h2,(hw b h1).trans h3,h4,h5,C.ext h _ _ h6⟩
    | mp K V l=>
      obtain⟨b,es,ck,h1,h2,h3,h4⟩:=k2
      exact⟨b,es,ck,hβ.trans h1,hL.trans h2,(hw b h1).trans h3,MpL.ext h _ _ h4.1,h4.2⟩
    | row e l=>
      obtain⟨N,h1,h2⟩:=k2
      refine⟨N,hL.trans h1,?_⟩
      rw[hβ]
      split at h2
      · rename_i b hb
        obtain⟨cs,t,fr,c1,c2,g1,g2,g3,g4,g5⟩:=h2
        exact⟨cs,t,fr,c1,c2,(hw b hb).trans g1,g2,g3,g4,RdL.mono (λx c=>Rd.keep h.keep h.s e x c) _ _ g5⟩
      · exact h2
  | froz e l=>
    obtain⟨k1,⟨N,h1,h2⟩,k3⟩:=k
    refine⟨hU.2 k1,⟨N,hL.trans h1,?_⟩,λb hb=>h.s b (k3 b (hβ ▸ hb))⟩
    rw[hβ]
    split at h2
    · rename_i b hb
      obtain⟨cs,t,fr,c1,c2,g1,g2,g3,g4,g5⟩:=h2
      exact⟨cs,t,fr,c1,c2,(hw b hb).trans g1,g2,g3,g4,RdL.mono (λx c=>Rd.keep h.keep h.s e x c) _ _ g5⟩
    · exact h2
def getAt {α:Type}(d:α):List α→Nat→α
  | [],_=>d
  | x::_,0=>x
  | _::r,n+1=>getAt d r n
def setAt {α:Type}:List α→Nat→α→List α
  | [],_,_=>[]
  | _::r,0,v=>v::r
  | x::r,n+1,v=>x::setAt r n v
theorem ybI {α:Type}(d:α):∀ (l:List α) (n m:Nat) (v:α),getAt d (setAt l n v) m=if m=n∧n<l.length then v else getAt d l m
  | [],n,m,v=>by simp[setAt,getAt]
  | x::r,0,0,v=>by simp[setAt,getAt]
  | x::r,0,m+1,v=>by simp[setAt,getAt]
  | x::r,n+1,0,v=>by simp[setAt,getAt]
  | x::r,n+1,m+1,v=>by simp[setAt,getAt,ybI d r n m v]
theorem ybC {α:Type}:∀ (l:List α) (n:Nat) (v:α),(setAt l n v).length=l.length
  | [],_,_=>rfl
  | _::_,0,_=>rfl
  | _::r,n+1,v=>by simp[setAt,ybC r n v]
theorem getAt_ge {α:Type}(d:α):∀ (l:List α) (n:Nat),l.length≤n→getAt d l n=d
  | [],_,_=>rfl
  | x::r,0,h=>absurd h (by simp)
  | x::r,n+1,h=>getAt_ge d r n (by simpa using h)
structure SREL (E:Env)(w:World)(sl:List AV)(tmps:Array Value):Prop where
  len:sl.length=tmps.size
  val:∀ t,V E w (getAt .bad sl t) (tmps.getD t undef)
theorem V.bad {E:Env}{w:World}{x:Value}:V E w .bad x:=by unfold V;rw[if_neg (by simp[AV.isAgg])];trivial
theorem SREL.ext {P0:Nat→Prop}{E E':Env}{w w':World}{sl:List AV}{tmps:Array Value}(h:Ext P0 E w E' w')(k:SREL E w sl tmps):SREL E' w' sl tmps:=
  ⟨k.len,λt=>V.ext h _ _ (k.val t)⟩
theorem SREL.put [Gl]{E:Env}{w:World}{sl:List AV}{tmps:Array Value}(k:SREL E w sl tmps)(d:Nat)(v:AV)(x:Value)(hv:V E w v x) :
    SREL E w (setAt sl d v) (tmps.setIfInBounds d x):=by
  refine⟨by rw[ybC,k.len,Array.size_setIfInBounds],λt => ?_⟩
  rw[ybI]
  have e:(tmps.setIfInBounds d x).getD t undef=if t=d∧d<tmps.size then x else tmps.getD t undef:=by
    simp only[Array.getD_eq_getD_getElem?,Array.getElem?_setIfInBounds]
    by_cases h:d=t
    · subst h
      by_cases h2:d<tmps.size
      · simp[h2]
      · simp[h2]
    · rw[if_neg h,if_neg (λhh=>h hh.1.symm)]
  rw[e,k.len]
  split
  · exact hv
  · exact k.val t
end Go.Va
