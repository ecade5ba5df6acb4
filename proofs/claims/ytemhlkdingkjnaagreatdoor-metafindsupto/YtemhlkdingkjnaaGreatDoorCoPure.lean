/-
  Co, part 5: operations that ask the heap nothing.
-/
import Derived.Test.YtemhlkdingkjnaaGreatDoorCoOps1
set_option linter.unusedVariables false
set_option linter.unusedSimpArgs false
namespace Go.Co
open Go
open Go.Va (Grow getAt setAt NoFr Ty TE findT TabOk TyIs zc ybl Wr At Keep)
def pureRun {α:Type}(P:Program):Sem α→Option α
  | .pure a=>some a
  | .program k=>pureRun P (k P)
  | .mark _ k=>pureRun P k
  | _=>none
theorem ycL {α:Type}{P:Program}:∀ (m:Sem α) (v:α) (w:World),pureRun P m=some v→m.run P w = .ok v w
  | .pure a,v,w,h=>by
    simp only[pureRun]at h;injection h with h;subst h;rfl
  | .program k,v,w,h=>ycL (k P) v w h
  | .mark _ k,v,w,h=>ycL k v w h
  | .load _ _ _,_,_,h=>nomatch h
  | .store _ _ _ _,_,_,h=>nomatch h
  | .new _ _,_,_,h=>nomatch h
  | .shape _ _,_,_,h=>nomatch h
  | .freeze _ _ _,_,_,h=>nomatch h
  | .frozen _ _,_,_,h=>nomatch h
  | .getObj _ _,_,_,h=>nomatch h
  | .setObj _ _ _,_,_,h=>nomatch h
  | .choose _ _,_,_,h=>nomatch h
  | .sys _ _,_,_,h=>nomatch h
  | .halt _,_,_,h=>nomatch h
def toVals:AV→Option (List Value)
  | .done=>some []
  | .cons a b=>match toVals a,toVals b with
    | some [x],some r=>some (x::r)
    | _,_=>none
  | .val x=>some [x]
  | .agg l=>match l with
    | .done | .cons _ _=>(match toVals l with | some vs=>some [.agg vs.toArray] | none=>none)
    | _=>none
  | .tup l=>match l with
    | .done | .cons _ _=>(match toVals l with | some vs=>some [.tuple vs.toArray] | none=>none)
    | _=>none
  | .ifc t v=>match toVals v with
    | some [x]=>some [.iface t x]
    | _=>none
  | _=>none
theorem toVals_ok {E:Env}:∀ (v:AV) (vs cs:List Value),toVals v=some vs→C E v cs→cs=vs
  | .done,vs,cs,h,hc=>by injection h with h;subst h;exact hc
  | .cons a b,vs,cs,h,⟨x,r,e,h1,h2⟩=>by
    simp only[toVals]at h
    split at h
    · rename_i y s ha hb
      injection h with h;subst h e
      have e1:=toVals_ok a _ _ ha h1
      have e2:=toVals_ok b _ _ hb h2
      injection e1 with e1;rw[e1,e2]
    · exact nomatch h
  | .val x,vs,cs,h,hc=>by injection h with h;subst h;exact hc
  | .agg l,vs,cs,h,⟨a,e,h1⟩=>by
    have key:∀ s,toVals l=some s→[Value.agg a]=[.agg s.toArray]:=λs hs=>by
      rw[← toVals_ok l _ _ hs h1]
    subst e
    unfold toVals at h
    split at h
    · split at h
      · rename_i s hs;injection h with h;subst h;exact key _ hs
      · exact nomatch h
    · split at h
      · rename_i s hs;injection h with h;subst h;exact key _ hs
      · exact nomatch h
    · exact nomatch h
  | .tup l,vs,cs,h,⟨a,e,h1⟩=>by
    have key:∀ s,toVals l=some s→[Value.tuple a]=[.tuple s.toArray]:=λs hs=>by
      rw[← toVals_ok l _ _ hs h1]
    subst e
    unfold toVals at h
    split at h
    · split at h
      · rename_i s hs;injection h with h;subst h;exact key _ hs
      · exact nomatch h
    · split at h
      · rename_i s hs;injection h with h;subst h;exact key _ hs
      · exact nomatch h
    · exact nomatch h
  | .ifc t v,vs,cs,h,⟨x,e,h1⟩=>by
    simp only[toVals]at h
    split at h
    · rename_i y hy
      injection h with h;subst h e
      have:=toVals_ok v _ _ hy h1
      injection this with this;rw[this]
    · exact nomatch h
  | .bad,_,_,h,_=>nomatch h
  | .ptr _ _,_,_,h,_=>nomatch h
  | .sl _ _ _ _ _ _,_,_,h,_=>nomatch h
  | .mp _,_,_,h,_=>nomatch h
  | .es,_,_,h,_=>nomatch h
  | .fn _ _ _,_,_,h,_=>nomatch h
def toVal (v:AV):Option Value:=match toVals v with
  | some [x]=>some x
  | _=>none
theorem toVal_ok {E:Env}{v:AV}{x y:Value}(h:toVal v=some x)(hv:V E v y):y=x:=by
  unfold toVal at h
  split at h
  · rename_i z hz
    injection h with h;subst h
    have:=toVals_ok v _ _ hz hv
    injection this
  · exact nomatch h
def fromVal:Value→AV
  | .agg a => .agg (valA a.toList)
  | .tuple a => .tup (valA a.toList)
  | x => .val x
theorem fromVal_ok {E:Env}(x:Value):V E (fromVal x) x:=by
  unfold fromVal
  split
  · exact⟨_,rfl,C_valA _⟩
  · exact⟨_,rfl,C_valA _⟩
  · exact rfl
def isPure:Op→Bool
  | .binOp _ _ _ _ _ | .unOp _ _ _ | .convert _ _ _ | .field _ _ _ | .index _ _ _ | .extract _ _ | .makeInterface _ _ | .build _ _ | .slice _ _ _ _ _ | .typeAssert _ _ _ _ | .nilCheck _=>true
  | .call q=>match q.callee with
    | .builtin .len | .builtin .cap | .builtin .min | .builtin .max=>true
    | _=>false
  | _=>false
theorem parts_congr {ρ ρ':Operand→Value}:∀ (l:List (Nat×Operand)),(∀ x∈l.map (·.2),ρ x=ρ' x)→(l.map λ(i,x)=>(i,ρ x))=l.map λ(i,x)=>(i,ρ' x)
  | [],_=>rfl
  | (i,x)::l,h=>by
    simp only[List.map_cons]
    rw[h x (by simp)]
    have:=parts_congr l (λy hy=>h y (by simp only[List.map_cons,List.mem_cons];exact .inr hy))
    simp only[this]
theorem arr_map_congr {ρ ρ':Operand→Value}(a:Array Operand)(h:∀ x∈a.toList,ρ x=ρ' x):a.map ρ=a.map ρ':=by
  apply Array.toList_inj.1
  rw[Array.toList_map,Array.toList_map]
  exact List.map_congr_left h
theorem execOp_congr {ρ ρ':Operand→Value}{o:Oper}(hp:isPure o.op=true)(h:∀ x∈o.op.operands.toList,ρ x=ρ' x):execOp ρ o=execOp ρ' o:=by
  unfold execOp
  cases ho:o.op<;>rw[ho]at h hp<;>first | (exact absurd hp Bool.false_ne_true) | skip
  case binOp bo t x y t'=>
    simp only[];rw[h x (by simp[Op.operands]),h y (by simp[Op.operands])]
  case unOp u t x=>simp only[];rw[h x (by simp[Op.operands])]
  case convert s d x=>simp only[];rw[h x (by simp[Op.operands])]
  case field t x j=>simp only[];rw[h x (by simp[Op.operands])]
  case index t x i=>simp only[];rw[h x (by simp[Op.operands]),h i (by simp[Op.operands])]
  case extract x i=>simp only[];rw[h x (by simp[Op.operands])]
  case makeInterface t x=>simp only[];rw[h x (by simp[Op.operands])]
  case nilCheck x=>simp only[];rw[h x (by simp[Op.operands])]
  case typeAssert x t u b=>simp only[];rw[h x (by simp[Op.operands])]
  case build t ps=>
    simp only[]
    have:(ps.map λ(i,x)=>(i,ρ x))=ps.map λ(i,x)=>(i,ρ' x):=by
      apply Array.toList_inj.1
      rw[Array.toList_map,Array.toList_map]
      exact parts_congr ps.toList (λx hx=>h x (by simpa[Op.operands]using hx))
    rw[this]
  case slice t x lo hi mx=>
    simp only[]
    have h1:lo.map ρ=lo.map ρ':=by cases lo with | none=>rfl | some y=>simp[h y (by simp[Op.operands])]
    have h2:hi.map ρ=hi.map ρ':=by cases hi with | none=>rfl | some y=>simp[h y (by simp[Op.operands])]
    have h3:mx.map ρ=mx.map ρ':=by cases mx with | none=>rfl | some y=>simp[h y (by simp[Op.operands])]
    rw[h x (by simp[Op.operands]),h1,h2,h3]
  case call q=>
    simp only[]
    have hc:q.args.map ρ=q.args.map ρ':=arr_map_congr q.args (λx hx=>h x (by
      simp only[Op.operands,Call.operands,Array.toList_append,List.mem_append];exact .inr hx))
    unfold resolve
    simp only[isPure]at hp
    split at hp<;>first | exact absurd hp Bool.false_ne_true | (rename_i hq;rw[hq];simp only[hc])
def knownAll (ev:Operand→AV):List Operand→Bool
  | []=>true
  | x::r=>match toVal (ev x) with
    | some _=>knownAll ev r
    | none=>false
theorem knownAll_ok {ev:Operand→AV}:∀ {l:List Operand},knownAll ev l=true→∀ x∈l,∃ v,toVal (ev x)=some v
  | [],_,x,hx=>nomatch hx
  | y :: l,h,x,hx=>by
    simp only[knownAll]at h
    split at h
    · rename_i v hv
      rcases List.mem_cons.1 hx with rfl | hx
      · exact⟨v,hv⟩
      · exact knownAll_ok h x hx
    · exact nomatch h
def valOr (v:AV):Value:=match toVal v with
  | some x=>x
  | none=>undef
def viaPure {R:Type} (P:Program) (o:Oper) (ev:Operand→AV) (h:Hs) (k:AV→Hs→Option R) (els:Option R):Option R:=
  match isPure o.op with
  | false=>els
  | true=>match knownAll ev o.op.operands.toList with
    | false=>els
    | true=>match pureRun P (execOp (λx=>valOr (ev x)) o) with
      | some (.value v)=>ybL (fromVal v) λv=>k v h
      | _=>els
theorem viaPure_ok {R:Type} {P:Program} {o:Oper} {ev:Operand→AV} {h:Hs} {k:AV→Hs→Option R} {els:Option R} {r:R} (hk:viaPure P o ev h k els=some r) :
    (∃ v h',k v h'=some r∧SOk P o ev h v h')∨els=some r:=by
  unfold viaPure at hk
  split at hk
  · exact .inr hk
  · rename_i hp
    split at hk
    · exact .inr hk
    · rename_i ha
      split at hk
      · rename_i v hv
        rw[yba]at hk
        refine .inl ⟨_,_,hk,SOk.pure (λP0 E look w ρ hh hvs=>⟨v,?_,fromVal_ok v⟩)⟩
        have:execOp ρ o=execOp (λx=>valOr (ev x)) o:=execOp_congr hp (λx hx=>by
          obtain⟨y,hy⟩:=knownAll_ok ha x hx
          rw[toVal_ok hy (hvs x hx)]
          unfold valOr;rw[hy])
        rw[this]
        exact ycL _ _ w hv
      · exact .inr hk
end Go.Co
