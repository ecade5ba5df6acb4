/-
  Va, part 1: codes of Go types, what they read as, and how memory reads as such data.
-/
import Derived.Orders
import Derived.KernelRfl
set_option linter.unusedVariables false
set_option linter.unusedSimpArgs false
namespace Go.Va
open Go
inductive Ty where
  | int (k:IntKind)
  | bool
  | str
  | slice (e:Ty)
  | arr (n:Nat) (e:Ty)
  | pair (a b:Ty)
  | unit
  | opq (k:Nat)
  | smap
  | mapT (k v:Ty)
def Ty.beq:Ty→Ty→Bool
  | .int k,b=>match b with | .int k'=>decide (k=k') | _=>false
  | .bool,b=>match b with | .bool=>true | _=>false
  | .str,b=>match b with | .str=>true | _=>false
  | .slice e,b=>match b with | .slice e'=>e.beq e' | _=>false
  | .arr n e,b=>match b with | .arr n' e'=>Nat.beq n n'&&e.beq e' | _=>false
  | .pair a c,b=>match b with | .pair a' c'=>a.beq a'&&c.beq c' | _=>false
  | .unit,b=>match b with | .unit=>true | _=>false
  | .opq k,b=>match b with | .opq k'=>Nat.beq k k' | _=>false
  | .smap,b=>match b with | .smap=>true | _=>false
  | .mapT k v,b=>match b with | .mapT k' v'=>k.beq k'&&v.beq v' | _=>false
theorem Ty.beq_eq:∀ (a b:Ty),a.beq b=true→a=b
  | .int k,b,h=>by cases b<;>simp_all [Ty.beq]
  | .bool,b,h=>by cases b<;>simp_all [Ty.beq]
  | .str,b,h=>by cases b<;>simp_all [Ty.beq]
  | .slice e,b,h=>by
    cases b with
    | slice e'=>simp only[Ty.beq]at h;rw[Ty.beq_eq e e' h]
    | _=>simp[Ty.beq]at h
  | .arr n e,b,h=>by
    cases b with
    | arr n' e'=>simp only[Ty.beq,Bool.and_eq_true]at h;rw[Nat.eq_of_beq_eq_true h.1,Ty.beq_eq e e' h.2]
    | _=>simp[Ty.beq]at h
  | .pair a c,b,h=>by
    cases b with
    | pair a' c'=>simp only[Ty.beq,Bool.and_eq_true]at h;rw[Ty.beq_eq a a' h.1,Ty.beq_eq c c' h.2]
    | _=>simp[Ty.beq]at h
  | .unit,b,h=>by cases b<;>simp_all [Ty.beq]
  | .opq k,b,h=>by
    cases b with
    | opq k'=>simp only[Ty.beq]at h;rw[Nat.eq_of_beq_eq_true h]
    | _=>simp[Ty.beq]at h
  | .smap,b,h=>by cases b<;>simp_all [Ty.beq]
  | .mapT k v,b,h=>by
    cases b with
    | mapT k' v'=>simp only[Ty.beq,Bool.and_eq_true]at h;rw[Ty.beq_eq k k' h.1,Ty.beq_eq v v' h.2]
    | _=>simp[Ty.beq]at h
theorem Ty.beq_self:∀ a:Ty,a.beq a=true
  | .int k=>by simp[Ty.beq]
  | .bool=>rfl
  | .str=>rfl
  | .slice e=>by simp only[Ty.beq];exact Ty.beq_self e
  | .arr n e=>by simp only[Ty.beq,Bool.and_eq_true];exact⟨Nat.beq_refl n,Ty.beq_self e⟩
  | .pair a b=>by simp only[Ty.beq,Bool.and_eq_true];exact⟨Ty.beq_self a,Ty.beq_self b⟩
  | .unit=>rfl
  | .opq k=>by simp only[Ty.beq];exact Nat.beq_refl k
  | .smap=>rfl
  | .mapT k v=>by simp only[Ty.beq,Bool.and_eq_true];exact⟨Ty.beq_self k,Ty.beq_self v⟩
instance:DecidableEq Ty:=λa b=>
  match h:a.beq b with
  | true=>isTrue (Ty.beq_eq a b h)
  | false=>isFalse λe=>by subst e;rw[Ty.beq_self]at h;exact absurd h (by simp)
abbrev Den:Ty→Type
  | .int _=>Int
  | .bool=>Bool
  | .str=>ByteArray
  | .slice e=>List (Den e)
  | .arr _ e=>List (Den e)
  | .pair a b=>Den a×Den b
  | .unit=>Unit
  | .opq _=>Unit
  | .smap=>List (ByteArray×Int)
  | .mapT k v=>List (Den k×Den v)
def dflt:(T:Ty)→Den T
  | .int _=>(0:Int)
  | .bool=>false
  | .str=>(⟨#[]⟩:ByteArray)
  | .slice _=>[]
  | .arr n e=>List.replicate n (dflt e)
  | .pair a b=>(dflt a,dflt b)
  | .unit=>()
  | .opq _=>()
  | .smap=>[]
  | .mapT _ _=>[]
def Ty.sz:Ty→Nat
  | .arr n e=>n*e.sz
  | .pair a b=>a.sz+b.sz
  | .unit=>0
  | _=>1
def Ty.agg:Ty→Bool
  | .arr _ _ | .pair _ _ | .unit=>true
  | _=>false
def nilOf:Nat→Value
  | 0 => .pointer none
  | 1 => .nilFunc
  | 2 => .map none
  | _ => .nilIface
def RdL {α:Type}(R:α→List Value→Prop):List α→List Value→Prop
  | [],cs=>cs=[]
  | x::l,cs=>∃ c1 c2,cs=c1++c2∧R x c1∧RdL R l c2
def At (w:World)(a:Addr)(cs:List Value):Prop:=
  a.spot=none∧∀ j (h:j<cs.length),w.cell? ⟨a.block,a.off+j,none⟩=some cs[j]
def Rd (S:Nat→Prop)(w:World):(T:Ty)→Den T→List Value→Prop
  | .int k,n,cs=>cs=[.int k n]
  | .bool,b,cs=>cs=[.bool b]
  | .str,s,cs=>cs=[.string s]
  | .slice e,l,cs=>∃ (a:Option Addr) (cap:Nat),cs=[.slice a l.length cap]∧l.length≤cap ∧
      (l=[]∨∃ ad,a=some ad∧S ad.block∧∃ cells,RdL (Rd S w e) l cells∧At w ad cells)
  | .arr n e,l,cs=>l.length=n∧RdL (Rd S w e) l cs
  | .pair a b,x,cs=>∃ c1 c2,cs=c1++c2∧Rd S w a x.1 c1∧Rd S w b x.2 c2
  | .unit,_,cs=>cs=[]
  | .opq k,_,cs=>cs=[nilOf k]
  | .smap,l,cs=>(l=[]∧cs=[.map none])∨∃ (b:Nat) (es:Array MapEntry) (ck:Nat),cs=[.map (some b)]∧S b∧w.heap[b]?=some (.map es ck) ∧
      es.toList.map (λe=>(e.key,e.val))=l.map λp=>(Value.string p.1,Value.int .i64 p.2)
  | .mapT _ _,l,cs=>l=[]∧cs=[.map none]
theorem RdL.length {α:Type}{R:α→List Value→Prop}{s:Nat}(h:∀ x c,R x c→c.length=s) :
    ∀ (l:List α) (cs:List Value),RdL R l cs→cs.length=l.length*s
  | [],cs,hr=>by simp[RdL]at hr;subst hr;simp
  | x::l,cs,hr=>by
    obtain⟨c1,c2,rfl,h1,h2⟩:=hr
    have:=RdL.length h l c2 h2
    rw[List.length_append,h _ _ h1,this,List.length_cons,Nat.succ_mul];omega
theorem RdL.mono {α:Type}{R R':α→List Value→Prop}(h:∀ x c,R x c→R' x c) :
    ∀ (l:List α) (cs:List Value),RdL R l cs→RdL R' l cs
  | [],_,hr=>hr
  | _::l,_,⟨c1,c2,e,h1,h2⟩=>⟨c1,c2,e,h _ _ h1,RdL.mono h l c2 h2⟩
theorem RdL.append {α:Type}{R:α→List Value→Prop} :
    ∀ (l:List α) (cs:List Value) (m:List α) (ds:List Value),RdL R l cs→RdL R m ds→RdL R (l++m) (cs++ds)
  | [],cs,m,ds,h,k=>by simp[RdL]at h;subst h;simpa using k
  | x::l,cs,m,ds,h,k=>by
    obtain⟨c1,c2,rfl,h1,h2⟩:=h
    exact⟨c1,c2++ds,by simp,h1,RdL.append l c2 m ds h2 k⟩
theorem RdL.split {α:Type}{R:α→List Value→Prop} :
    ∀ (l m:List α) (cs:List Value),RdL R (l++m) cs→∃ c1 c2,cs=c1++c2∧RdL R l c1∧RdL R m c2
  | [],m,cs,h=>⟨[],cs,by simp,rfl,h⟩
  | x::l,m,cs,h=>by
    obtain⟨c1,c2,rfl,h1,h2⟩:=h
    obtain⟨d1,d2,rfl,k1,k2⟩:=RdL.split l m c2 h2
    exact⟨c1++d1,d2,by simp,⟨c1,d1,rfl,h1,k1⟩,k2⟩
theorem RdL.get {α:Type}{R:α→List Value→Prop}{s:Nat}(hs:∀ x c,R x c→c.length=s)(l:List α)(cs:List Value)
    (h:RdL R l cs) (i:Nat) (hi:i<l.length):∃ c1 c c2,cs=c1++c++c2∧c1.length=i*s∧R l[i] c∧RdL R (l.take i) c1∧RdL R (l.drop (i+1)) c2:=by
  have e:l=l.take i++(l[i]::l.drop (i+1)):=by simp
  rw[e]at h
  obtain⟨c1,c2,rfl,k1,d1,d2,rfl,k2,k3⟩:=RdL.split _ _ _ h
  refine⟨c1,d1,d2,by simp,?_,k2,k1,k3⟩
  rw[RdL.length hs _ _ k1,List.length_take,Nat.min_eq_left (by omega)]
theorem Rd.length (S:Nat→Prop)(w:World):∀ (T:Ty) (x:Den T) (cs:List Value),Rd S w T x cs→cs.length=T.sz
  | .int _,_,_,h=>by simp only[Rd]at h;subst h;rfl
  | .bool,_,_,h=>by simp only[Rd]at h;subst h;rfl
  | .str,_,_,h=>by simp only[Rd]at h;subst h;rfl
  | .slice _,_,_,h=>by obtain⟨a,cap,rfl,_⟩:=h;rfl
  | .arr n e,l,cs,h=>by
    obtain⟨h1,h2⟩:=h
    rw[RdL.length (λx c=>Rd.length S w e x c) l cs h2,h1];rfl
  | .pair a b,x,cs,h=>by
    obtain⟨c1,c2,rfl,h1,h2⟩:=h
    rw[List.length_append,Rd.length S w a _ _ h1,Rd.length S w b _ _ h2];rfl
  | .unit,_,_,h=>by simp only[Rd]at h;subst h;rfl
  | .opq _,_,_,h=>by simp only[Rd]at h;subst h;rfl
  | .smap,_,_,h=>by
    simp only[Rd]at h
    rcases h with ⟨_,rfl⟩ | ⟨b,es,ck,rfl,_⟩<;>rfl
  | .mapT _ _,_,_,h=>by simp only[Rd]at h;rw[h.2];rfl
structure Keep (S:Nat→Prop)(w w':World):Prop where
  os:w'.os=w.os
  tape:w'.tape=w.tape
  output:w'.output=w.output
  size:w.heap.size≤w'.heap.size
  block:∀ b,S b→b<w.heap.size→w'.heap[b]?=w.heap[b]?
theorem Keep.refl (S:Nat→Prop)(w:World):Keep S w w:=⟨rfl,rfl,rfl,Nat.le_refl _,λ_ _ _=>rfl⟩
theorem Keep.trans {S:Nat→Prop}{a b c:World}(h:Keep S a b)(k:Keep S b c):Keep S a c:=
  ⟨k.os.trans h.os,k.tape.trans h.tape,k.output.trans h.output,Nat.le_trans h.size k.size,
    λi hi hl=>(k.block i hi (Nat.lt_of_lt_of_le hl h.size)).trans (h.block i hi hl)⟩
theorem Keep.mono {S S':Nat→Prop}{w w':World}(h:Keep S w w')(hs:∀ b,S' b→S b):Keep S' w w':=
  ⟨h.os,h.tape,h.output,h.size,λb hb=>h.block b (hs b hb)⟩
theorem cell?_lt {w:World}{a:Addr}{v:Value}(h:w.cell? a=some v):a.block<w.heap.size:=by
  unfold World.cell? at h
  rcases Nat.lt_or_ge a.block w.heap.size with hl | hl
  · exact hl
  · rw[Array.getElem?_eq_none hl]at h;exact absurd h (by simp)
theorem Keep.cell {S:Nat→Prop}{w w':World}(h:Keep S w w'){a:Addr}{v:Value}(hs:S a.block)(hc:w.cell? a=some v) :
    w'.cell? a=some v:=by
  have hl:=cell?_lt hc
  unfold World.cell? at hc ⊢
  rw[h.block _ hs hl];exact hc
theorem Keep.at {S:Nat→Prop}{w w':World}(h:Keep S w w'){a:Addr}{cs:List Value}(hs:S a.block)(hc:At w a cs):At w' a cs:=
  ⟨hc.1,λj hj=>h.cell hs (hc.2 j hj)⟩
theorem Rd.keep {S S':Nat→Prop} {w w':World} (h:Keep S w w') (hs:∀ b,S b→S' b) :
    ∀ (T:Ty) (x:Den T) (cs:List Value),Rd S w T x cs→Rd S' w' T x cs
  | .int _,_,_,k=>k
  | .bool,_,_,k=>k
  | .str,_,_,k=>k
  | .slice e,l,cs,k=>by
    obtain⟨a,cap,rfl,hl,k⟩:=k
    refine⟨a,cap,rfl,hl,?_⟩
    rcases k with k | ⟨ad,rfl,hb,cells,h1,h2⟩
    · exact .inl k
    · exact .inr ⟨ad,rfl,hs _ hb,cells,RdL.mono (λx c=>Rd.keep h hs e x c) _ _ h1,h.at hb h2⟩
  | .arr n e,l,cs,k=>⟨k.1,RdL.mono (λx c=>Rd.keep h hs e x c) _ _ k.2⟩
  | .pair a b,x,cs,k=>by
    obtain⟨c1,c2,e,h1,h2⟩:=k
    exact⟨c1,c2,e,Rd.keep h hs a _ _ h1,Rd.keep h hs b _ _ h2⟩
  | .unit,_,_,k=>k
  | .opq _,_,_,k=>k
  | .smap,_,_,k=>by
    simp only[Rd]at k ⊢
    rcases k with k | ⟨b,es,ck,h1,h2,h3,h4⟩
    · exact .inl k
    · have hl:b<w.heap.size:=by
        rcases Nat.lt_or_ge b w.heap.size with hl | hl
        · exact hl
        · rw[Array.getElem?_eq_none hl]at h3;exact absurd h3 (by simp)
      exact .inr ⟨b,es,ck,h1,hs _ h2,(h.block b h2 hl).trans h3,h4⟩
  | .mapT _ _,_,_,k=>k
theorem At.part {w:World}{a:Addr}{c1 c c2:List Value}(h:At w a (c1++c++c2)):At w ⟨a.block,a.off+c1.length,none⟩ c:=
  ⟨rfl,λj hj=>by
    have:=h.2 (c1.length+j) (by simp;omega)
    rw[show a.off+(c1.length+j)=a.off+c1.length+j by omega]at this
    rw[this]
    congr 1
    simp[hj]⟩
theorem Addr.add_eq {a:Addr}(h:a.spot=none)(n:Nat):a.add n=⟨a.block,a.off+n,none⟩:=by
  unfold Addr.add
  split
  · rename_i e;subst e;cases a;simp at h;simp[h]
  · cases a;simp
theorem At.nil {w:World}{a:Addr}(h:a.spot=none):At w a []:=⟨h,λj hj=>absurd hj (by simp)⟩
end Go.Va
