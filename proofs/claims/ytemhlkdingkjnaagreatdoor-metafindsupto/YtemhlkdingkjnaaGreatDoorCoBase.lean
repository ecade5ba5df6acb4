/-
  Co, part 1: runs with known values: abstract values, the abstract heap, and what it means that they stand for a frame and a world.
-/
import Derived.Test.YtemhlkdingkjnaaGreatDoorVaSortCall
import Derived.Test.YtemhlkdingkjnaaGreatDoorVaMem
import Derived.Test.YtemhlkdingkjnaaGreatDoorVaTab
set_option linter.unusedVariables false
set_option linter.unusedSimpArgs false
namespace Go.Co
open Go
open Go.Va (getAt setAt ybI ybC getAt_ge Keep At NoFr)
inductive AV where
  | bad
  | val (x:Value)
  | ptr (r off:Nat)
  | sl (r off len lo esz:Nat) (ex:Bool)
  | mp (r:Nat)
  | es
  | fn (f:Fn) (first caps:AV)
  | ifc (t:TypeId) (v:AV)
  | agg (l:AV)
  | tup (l:AV)
  | done
  | cons (a b:AV)
inductive Ent where
  | un
  | dead
  | cells (l:AV)
  | map (es:List (Value×AV))
abbrev Env:=Nat→Option (Nat×Nat)
def C (E:Env):AV→List Value→Prop
  | .bad,_=>True
  | .val x,cs=>cs=[x]
  | .ptr r off,cs=>∃ b n,E r=some (b,n)∧cs=[.pointer (some ⟨b,off,none⟩)]
  | .sl r off len lo esz ex,cs=>∃ b n c,E r=some (b,n)∧cs=[.slice (some ⟨b,off,none⟩) len c]∧len≤lo∧lo≤c∧(ex=true→c=lo)∧off+c*esz≤n
  | .mp r,cs=>∃ b n,E r=some (b,n)∧cs=[.map (some b)]
  | .es,cs=>∃ a c,cs=[.slice a 0 c]
  | .fn f fi ca,cs=>∃ a1 a2,cs=[.func f a1 a2]∧C E fi a1.toList∧C E ca a2.toList
  | .ifc t v,cs=>∃ x,cs=[.iface t x]∧C E v [x]
  | .agg l,cs=>∃ a,cs=[.agg a]∧C E l a.toList
  | .tup l,cs=>∃ a,cs=[.tuple a]∧C E l a.toList
  | .done,cs=>cs=[]
  | .cons a b,cs=>∃ x r,cs=x::r∧C E a [x]∧C E b r
def V (E:Env)(v:AV)(x:Value):Prop:=C E v [x]
theorem C.ext {E E':Env}(h:∀ r x,E r=some x→E' r=some x):∀ (v:AV) (cs:List Value),C E v cs→C E' v cs
  | .bad,_,_=>trivial
  | .val _,_,k=>k
  | .ptr _ _,_,⟨b,n,e,k⟩=>⟨b,n,h _ _ e,k⟩
  | .sl _ _ _ _ _ _,_,⟨b,n,c,e,k⟩=>⟨b,n,c,h _ _ e,k⟩
  | .mp _,_,⟨b,n,e,k⟩=>⟨b,n,h _ _ e,k⟩
  | .es,_,k=>k
  | .fn _ a b,_,⟨x,y,e,h1,h2⟩=>⟨x,y,e,C.ext h a _ h1,C.ext h b _ h2⟩
  | .ifc _ v,_,⟨x,e,h1⟩=>⟨x,e,C.ext h v _ h1⟩
  | .agg l,_,⟨x,e,h1⟩=>⟨x,e,C.ext h l _ h1⟩
  | .tup l,_,⟨x,e,h1⟩=>⟨x,e,C.ext h l _ h1⟩
  | .done,_,k=>k
  | .cons a b,_,⟨x,r,e,h1,h2⟩=>⟨x,r,e,C.ext h a _ h1,C.ext h b _ h2⟩
structure Ext (P0:Nat→Prop)(E:Env)(w:World)(E':Env)(w':World):Prop where
  sub:∀ r x,E r=some x→E' r=some x
  keepP:Keep P0 w w'
theorem Ext.refl (P0:Nat→Prop)(E:Env)(w:World):Ext P0 E w E w:=⟨λ_ _ h=>h,.refl _ _⟩
theorem Ext.trans {P0:Nat→Prop}{E E' E'':Env}{w w' w'':World}(h:Ext P0 E w E' w')(k:Ext P0 E' w' E'' w''):Ext P0 E w E'' w'':=
  ⟨λr x e=>k.sub r x (h.sub r x e),h.keepP.trans k.keepP⟩
theorem V.ext {P0:Nat→Prop}{E E':Env}{w w':World}(h:Ext P0 E w E' w')(v:AV)(x:Value)(k:V E v x):V E' v x:=C.ext h.sub v _ k
def MREL (E:Env):List (Value×AV)→List MapEntry→Prop
  | [],es=>es=[]
  | (k,v)::l,es=>∃ e r,es=e::r∧e.key=k∧V E v e.val∧MREL E l r
def Born (en:Array MapEntry)(k:Nat):Prop:=k=en.size∧∀ (j:Nat) (e:MapEntry),en[j]?=some e→e.born=j
def EREL (E:Env)(w:World)(r:Nat):Ent→Prop
  | .un=>E r=none
  | .dead=>E r≠none
  | .cells l=>∃ b n cs t fr,E r=some (b,n)∧w.heap[b]?=some (.cells cs t fr)∧NoFr cs.size fr∧cs.size=n∧∃ c1 c2,cs.toList=c1++c2∧C E l c1
  | .map es=>∃ b n en k,E r=some (b,n)∧w.heap[b]?=some (.map en k)∧MREL E es en.toList∧Born en k
def Ent.isLive:Ent→Bool
  | .cells _ | .map _=>true
  | _=>false
theorem MREL.ext {E E':Env}(h:∀ r x,E r=some x→E' r=some x):∀ (l:List (Value×AV)) (es:List MapEntry),MREL E l es→MREL E' l es
  | [],_,k=>k
  | (_,v)::l,_,⟨e,r,h1,h2,h3,h4⟩=>⟨e,r,h1,h2,C.ext h v _ h3,MREL.ext h l r h4⟩
theorem EREL.ext {E E':Env}{w w':World}{r:Nat}{e:Ent}(h:∀ r x,E r=some x→E' r=some x)(hr:E' r=E r)
    (hw:∀ b n,e.isLive=true→E r=some (b,n)→w'.heap[b]?=w.heap[b]?) (k:EREL E w r e):EREL E' w' r e:=by
  cases e with
  | un=>exact hr.trans k
  | dead=>exact λx=>k (hr ▸ x)
  | cells l=>
    obtain⟨b,n,cs,t,fr,h1,h2,h3,h4,c1,c2,h5,h6⟩:=k
    exact⟨b,n,cs,t,fr,hr.trans h1,(hw b n rfl h1).trans h2,h3,h4,c1,c2,h5,C.ext h _ _ h6⟩
  | map es=>
    obtain⟨b,n,en,k,h1,h2,h3,h4⟩:=k
    exact⟨b,n,en,k,hr.trans h1,(hw b n rfl h1).trans h2,MREL.ext h _ _ h3,h4⟩
structure HREL (P0:Nat→Prop)(E:Env)(look:Nat→Ent)(w:World):Prop where
  ent:∀ r,EREL E w r (look r)
  inj:∀ r r' b n n',(look r).isLive=true→(look r').isLive=true→E r=some (b,n)→E r'=some (b,n')→r=r'
  sep:∀ r b n,(look r).isLive=true→E r=some (b,n)→¬ P0 b
  lt:∀ r b n,E r=some (b,n)→b<w.heap.size
  pIn:∀ b,P0 b→b<w.heap.size
structure SREL (E:Env)(sl:List AV)(tmps:Array Value):Prop where
  len:sl.length=tmps.size
  val:∀ t,V E (getAt .bad sl t) (tmps.getD t undef)
theorem V.bad {E:Env}{x:Value}:V E .bad x:=trivial
theorem SREL.ext {P0:Nat→Prop}{E E':Env}{w w':World}{sl:List AV}{tmps:Array Value}(h:Ext P0 E w E' w')(k:SREL E sl tmps):SREL E' sl tmps:=
  ⟨k.len,λt=>V.ext h _ _ (k.val t)⟩
theorem SREL.put {E:Env}{sl:List AV}{tmps:Array Value}(k:SREL E sl tmps)(d:Nat)(v:AV)(x:Value)(hv:V E v x) :
    SREL E (setAt sl d v) (tmps.setIfInBounds d x):=by
  refine⟨by rw[ybC,k.len,Array.size_setIfInBounds],λt => ?_⟩
  rw[ybI]
  have e:(tmps.setIfInBounds d x).getD t undef=if t=d∧d<tmps.size then x else tmps.getD t undef:=by
    simp only[Array.getD_eq_getD_getElem?,Array.getElem?_setIfInBounds]
    by_cases h:d=t
    · subst h
      by_cases h2:d<tmps.size
      · simp[h2]
      · simp[h2]
    · rw[if_neg h,if_neg (λhh=>h hh.1.symm)]
  rw[e,k.len]
  split
  · exact hv
  · exact k.val t
def updL:List (Nat×Ent)→(Nat→Ent)→Nat→Ent
  | [],f,r=>f r
  | (q,e)::t,f,r=>if r==q then e else updL t f r
def opF (f:Nat→AV):Operand→AV
  | .tmp t=>f t
  | .const v => .val v
  | .func g => .fn (.func g) .done .done
  | .global g => .val (.pointer (some ⟨g,0,none⟩))
theorem opF_V {E:Env}{f:Nat→AV}{a:Act}(h:∀ t,V E (f t) (a.tmps.getD t undef)):∀ x,V E (opF f x) (a.eval x)
  | .tmp t=>h t
  | .const v=>rfl
  | .func f=>⟨#[],#[],rfl,rfl,rfl⟩
  | .global g=>rfl
def Post (P0:Nat→Prop)(E:Env)(look:Nat→Ent)(w:World)(v:AV)(WN:List (Nat×Ent))(x:Value)(w':World):Prop:=
  ∃ E',HREL P0 E' (updL WN look) w'∧Ext P0 E w E' w'∧V E' v x
def Runs (P:Program) (o:Oper) (ρ:Operand→Value) (w:World) (Q:Value→World→Prop):Prop:=
  (∃ x w',(execOp ρ o).run P w = .ok (.value x) w'∧Q x w')∨(∃ w',(execOp ρ o).run P w = .ok .skip w'∧Q undef w') ∨
    ∃ f args w1,(execOp ρ o).run P w = .ok (.enter f args) w1∧Calls P f args w1 λe w'=>∃ x,e = .returned x∧Q x w'
def Ok (P:Program) (o:Oper) (op:Operand→AV) (look:Nat→Ent) (v:AV) (RN:List Nat) (WN:List (Nat×Ent)):Prop:=
  ∀ (look':Nat→Ent) (P0:Nat→Prop) (E:Env) (w:World) (ρ:Operand→Value),(∀ q,q∈RN∨q∈WN.map Prod.fst→look' q=look q) →
    HREL P0 E look' w→(∀ x∈o.op.operands.toList,V E (op x) (ρ x))→Runs P o ρ w (Post P0 E look' w v WN)
end Go.Co
