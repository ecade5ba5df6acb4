/-
  Co, part 9: maps.
-/
import Derived.Test.YtemhlkdingkjnaaGreatDoorCoMk
set_option linter.unusedVariables false
set_option linter.unusedSimpArgs false
namespace Go.Co
open Go
open Go.Va (Grow getAt setAt NoFr Ty TE findT TabOk TyIs zc ybl Wr At Keep Gl)
def findI (kind:TypeDesc) (x:Value):List (Value×AV)→Nat→Option (Option (Nat×AV))
  | [],_=>some none
  | (k,v)::es,i=>match Instr.sameNow kind x k with
    | some true=>some (some (i,v))
    | some false=>findI kind x es (i+1)
    | none=>none
theorem findI_none {E:Env}{kind:TypeDesc}{x:Value}:∀ (es:List (Value×AV)) (en:List MapEntry) (i:Nat),MREL E es en→findI kind x es i=some none→Instr.findNow kind x en i=some none
  | [],en,i,h,_=>by rw[show en=[] from h];rfl
  | (k,v)::es,en,i,⟨e,r,h1,h2,h3,h4⟩,hf=>by
    subst h1
    unfold findI at hf
    unfold Instr.findNow
    rw[h2]
    split at hf
    · exact nomatch hf
    · rename_i hs;rw[hs];exact findI_none es r (i+1) h4 hf
    · exact nomatch hf
theorem findI_some {E:Env}{kind:TypeDesc}{x:Value}:∀ (es:List (Value×AV)) (en:List MapEntry) (i j:Nat) (v:AV),MREL E es en→findI kind x es i=some (some (j,v)) →
    ∃ y j',Instr.findNow kind x en i=some (some (j,y))∧V E v y∧j=i+j'∧∃ e k',en[j']?=some e∧es[j']?=some (k',v)∧e.key=k'
  | [],en,i,j,v,h,hf=>nomatch hf
  | (k,v0)::es,en,i,j,v,⟨e,r,h1,h2,h3,h4⟩,hf=>by
    subst h1
    unfold findI at hf
    unfold Instr.findNow
    rw[h2]
    split at hf
    · rename_i hs
      injection hf with hf;injection hf with hf;injection hf with e1 e2;subst e1 e2
      rw[hs]
      exact⟨e.val,0,rfl,h3,rfl,e,k,rfl,rfl,h2⟩
    · rename_i hs
      rw[hs]
      obtain⟨y,j',g1,g2,g3,e',k',g4,g5,g6⟩:=findI_some es r (i+1) j v h4 hf
      exact⟨y,j'+1,g1,g2,by omega,e',k',by simpa using g4,by simpa using g5,g6⟩
    · exact nomatch hf
theorem findI_stop {E:Env}{kind:TypeDesc}{x:Value}:∀ (es:List (Value×AV)) (en:List MapEntry) (i:Nat),MREL E es en→findI kind x es i=none→Instr.findNow kind x en i=none
  | [],en,i,h,hf=>nomatch hf
  | (k,v)::es,en,i,⟨e,r,h1,h2,h3,h4⟩,hf=>by
    subst h1
    unfold findI at hf
    unfold Instr.findNow
    rw[h2]
    split at hf
    · exact nomatch hf
    · rename_i hs;rw[hs];exact findI_stop es r (i+1) h4 hf
    · rename_i hs;rw[hs]
def findA (P:Program) (kt:TypeId) (x:Value):List (Value×AV)→Nat→Option (Option (Nat×AV))
  | [],_=>some none
  | (k,v)::es,i=>match pureRun P (Op.equal kt x k) with
    | some true=>some (some (i,v))
    | some false=>findA P kt x es (i+1)
    | none=>none
theorem findA_none {P:Program}{E:Env}{kt:TypeId}{x:Value}{w:World}:∀ (es:List (Value×AV)) (en:List MapEntry) (i:Nat),MREL E es en→findA P kt x es i=some none→(Instr.findAsking kt x en i).run P w = .ok none w
  | [],en,i,h,_=>by rw[show en=[] from h];rfl
  | (k,v)::es,en,i,⟨e,r,h1,h2,h3,h4⟩,hf=>by
    subst h1
    unfold findA at hf
    unfold Instr.findAsking
    rw[h2]
    split at hf
    · exact nomatch hf
    · rename_i hs
      rw[Sem.run_bind,ycL _ _ w hs,Result.andThen_ok]
      exact findA_none es r (i+1) h4 hf
    · exact nomatch hf
theorem findA_some {P:Program}{E:Env}{kt:TypeId}{x:Value}{w:World}:∀ (es:List (Value×AV)) (en:List MapEntry) (i j:Nat) (v:AV),MREL E es en→findA P kt x es i=some (some (j,v)) →
    ∃ y j',(Instr.findAsking kt x en i).run P w = .ok (some (j,y)) w∧V E v y∧j=i+j'∧∃ e k',en[j']?=some e∧es[j']?=some (k',v)∧e.key=k'
  | [],en,i,j,v,h,hf=>nomatch hf
  | (k,v0)::es,en,i,j,v,⟨e,r,h1,h2,h3,h4⟩,hf=>by
    subst h1
    unfold findA at hf
    unfold Instr.findAsking
    rw[h2]
    split at hf
    · rename_i hs
      injection hf with hf;injection hf with hf;injection hf with e1 e2;subst e1 e2
      rw[Sem.run_bind,ycL _ _ w hs,Result.andThen_ok]
      exact⟨e.val,0,rfl,h3,rfl,e,k,rfl,rfl,h2⟩
    · rename_i hs
      rw[Sem.run_bind,ycL _ _ w hs,Result.andThen_ok]
      obtain⟨y,j',g1,g2,g3,e',k',g4,g5,g6⟩:=findA_some (w:=w) es r (i+1) j v h4 hf
      exact⟨y,j'+1,g1,g2,by omega,e',k',by simpa using g4,by simpa using g5,g6⟩
    · exact nomatch hf
def findK (P:Program)(kt:TypeId)(kind:TypeDesc)(x:Value)(es:List (Value×AV)):Option (Option (Nat×AV)):=match findI kind x es 0 with
  | some r=>some r
  | none=>findA P kt x es 0
theorem findK_none {P:Program}{E:Env}{kt:TypeId}{kind:TypeDesc}{x:Value}(hkt:P.underlying kt=some kind){es:List (Value×AV)}{en:List MapEntry}(h:MREL E es en)(hf:findK P kt kind x es=some none)(w:World):(Instr.findKey kt x en).run P w = .ok none w:=by
  unfold findK at hf
  unfold Instr.findKey
  rw[Sem.run_bind,Va.run_underlying hkt,Result.andThen_ok]
  split at hf
  · rename_i r hr
    injection hf with hf;subst hf
    rw[findI_none _ _ _ h hr];rfl
  · rename_i hr
    rw[findI_stop _ _ _ h hr]
    exact findA_none _ _ _ h hf
theorem findK_some {P:Program}{E:Env}{kt:TypeId}{kind:TypeDesc}{x:Value}(hkt:P.underlying kt=some kind){es:List (Value×AV)}{en:List MapEntry}{j:Nat}{v:AV}(h:MREL E es en)(hf:findK P kt kind x es=some (some (j,v)))(w:World) :
    ∃ y,(Instr.findKey kt x en).run P w = .ok (some (j,y)) w∧V E v y∧∃ e k',en[j]?=some e∧es[j]?=some (k',v)∧e.key=k':=by
  unfold findK at hf
  unfold Instr.findKey
  rw[Sem.run_bind,Va.run_underlying hkt,Result.andThen_ok]
  split at hf
  · rename_i r hr
    injection hf with hf;subst hf
    obtain⟨y,j',g1,g2,g3,g4⟩:=findI_some _ _ _ _ _ h hr
    rw[Nat.zero_add]at g3;subst g3
    rw[g1]
    exact⟨y,rfl,g2,g4⟩
  · rename_i hr
    rw[findI_stop _ _ _ h hr]
    obtain⟨y,j',g1,g2,g3,g4⟩:=findA_some (w:=w) _ _ _ _ _ h hf
    rw[Nat.zero_add]at g3;subst g3
    exact⟨y,g1,g2,g4⟩
theorem MREL_len {E:Env}:∀ (es:List (Value×AV)) (en:List MapEntry),MREL E es en→es.length=en.length
  | [],en,h=>by rw[show en=[] from h];rfl
  | _::es,en,⟨e,r,h1,_,_,h4⟩=>by subst h1;rw[List.length_cons,List.length_cons,MREL_len es r h4]
def setM:List (Value×AV)→Nat→Value×AV→List (Value×AV)
  | [],_,_=>[]
  | _::r,0,y=>y::r
  | x::r,n+1,y=>x::setM r n y
theorem MREL_set {E:Env}{x y:Value}{v:AV}(hv:V E v y):∀ (es:List (Value×AV)) (en:List MapEntry) (j:Nat),MREL E es en→MREL E (setM es j (x,v)) (en.modify j λe=>{ e with key:=x,val:=y })
  | [],en,j,h=>by rw[show en=[] from h];cases j<;>rfl
  | _::es,en,0,⟨e,r,h1,_,_,h4⟩=>by subst h1;exact⟨_,r,rfl,rfl,hv,h4⟩
  | (k,u)::es,en,j+1,⟨e,r,h1,h2,h3,h4⟩=>by subst h1;exact⟨e,_,rfl,h2,h3,MREL_set hv es r j h4⟩
theorem MREL_push {E:Env}{x y:Value}{v:AV}{b:Nat}(hv:V E v y):∀ (es:List (Value×AV)) (en:List MapEntry),MREL E es en→MREL E (es++[(x,v)]) (en++[{ key:=x,val:=y,born:=b }])
  | [],en,h=>by rw[show en=[] from h];exact⟨_,[],rfl,rfl,hv,rfl⟩
  | (k,u)::es,en,⟨e,r,h1,h2,h3,h4⟩=>by subst h1;exact⟨e,_,rfl,h2,h3,MREL_push hv es r h4⟩
theorem Born.modify {en:Array MapEntry}{k j:Nat}{f:MapEntry→MapEntry}(h:Born en k)(hf:∀ e,(f e).born=e.born):Born (en.modify j f) k:=by
  refine⟨by rw[Array.size_modify];exact h.1,λi e he => ?_⟩
  rw[Array.getElem?_modify]at he
  split at he
  · obtain⟨e0,h0,h1⟩:=Option.map_eq_some_iff.1 he
    rw[← h1,hf];exact h.2 i e0 h0
  · exact h.2 i e he
theorem Born.push {en:Array MapEntry}{k:Nat}{x y:Value}(h:Born en k):Born (en.push { key:=x,val:=y,born:=k }) (k+1):=by
  refine⟨by rw[Array.size_push,h.1],λi e he => ?_⟩
  rw[Array.getElem?_push]at he
  split at he
  · rename_i hi
    injection he with he
    rw[← he,hi];exact h.1
  · exact h.2 i e he
section
variable {R:Type} (P:Program) (h:Hs) (k:AV→Hs→Option R)
def cEntry (t:TypeId) (m key:AV):Option R:=match P.underlying t,toVal key,m with
  | some (.map kt et),some x,.mp r=>match h.H.get r,P.underlying kt with
    | .map es,some kind=>match pureRun P (Instr.checkKey false 10000 kt x),findK P kt kind x es,pureRun P (zeroValue et) with
      | some _,some (some (j,v)),_=>(match es[j]? with
        | some (k',_)=>(match Instr.sameBits 10000 k' x with
          | true=>putE h r (.map (setM es j (x,v))) h.nx [] λh=>k (.tup (.cons v (.cons (.val (.int .i64 j)) .done))) h
          | false=>none)
        | none=>none)
      | some _,some none,some z=>ybL (fromVal z) λv=>putE h r (.map (es++[(x,v)])) h.nx [] λh=>k (.tup (.cons v (.cons (.val (.int .i64 es.length)) .done))) h
      | _,_,_=>none
    | _,_=>none
  | _,_,_=>none
def cEntryStore (m stamp v:AV):Option R:=match m,stamp with
  | .mp r,.val (.int _ (.ofNat j))=>match h.H.get r with
    | .map es=>match es[j]? with
      | some (k',_)=>putE h r (.map (setM es j (k',v))) h.nx [] λh=>k .bad h
      | none=>none
    | _=>none
  | _,_=>none
def cMakeMap (res:Option Operand):Option R:=match res with
  | none=>newE h (.map []) λq h=>k (.mp q) h
  | some _=>none
def cLookup (t:TypeId) (m key:AV) (ok:Bool):Option R:=match P.underlying t,toVal key,m with
  | some (.map kt et),some x,.mp r=>match h.H.get r,P.underlying kt with
    | .map es,some kind=>match pureRun P (Instr.checkKey es.isEmpty 10000 kt x),findK P kt kind x es,pureRun P (zeroValue et) with
      | some _,some (some (_,v)),_=>(match ok with
        | true=>k (.tup (.cons v (.cons (.val (.bool true)) .done))) ⟨h.H,h.nx,r::h.rl,h.wl⟩
        | false=>k v ⟨h.H,h.nx,r::h.rl,h.wl⟩)
      | some _,some none,some z=>(match ok with
        | true=>ybL (.tup (.cons (fromVal z) (.cons (.val (.bool false)) .done))) λv=>k v ⟨h.H,h.nx,r::h.rl,h.wl⟩
        | false=>ybL (fromVal z) λv=>k v ⟨h.H,h.nx,r::h.rl,h.wl⟩)
      | _,_,_=>none
    | _,_=>none
  | _,_,_=>none
def cUpdate (t:TypeId) (m key v:AV):Option R:=match P.underlying t,toVal key,m with
  | some (.map kt _),some x,.mp r=>match h.H.get r,P.underlying kt with
    | .map es,some kind=>match pureRun P (Instr.checkKey false 10000 kt x),findK P kt kind x es with
      | some _,some (some (j,_))=>(match es[j]? with
        | some (k',_)=>(match Instr.sameBits 10000 k' x with
          | true=>putE h r (.map (setM es j (x,v))) h.nx [] λh=>k .bad h
          | false=>none)
        | none=>none)
      | some _,some none=>putE h r (.map (es++[(x,v)])) h.nx [] λh=>k .bad h
      | _,_=>none
    | _,_=>none
  | _,_,_=>none
end
theorem ent_map {P0:Nat→Prop}{E:Env}{look:Nat→Ent}{w:World}{r:Nat}{es:List (Value×AV)}(hh:HREL P0 E look w)(hl:look r = .map es) :
    ∃ b n en k,E r=some (b,n)∧w.heap[b]?=some (.map en k)∧MREL E es en.toList∧Born en k:=by
  have:=hh.ent r;rw[hl]at this;exact this
theorem isEmpty_len {α β:Type}{l:List α}{a:Array β}(h:l.length=a.toList.length):a.isEmpty=l.isEmpty:=by
  rw[Array.length_toList]at h
  cases l with
  | nil=>
    have:a.size=0:=h.symm
    simp[Array.isEmpty,this]
  | cons x l=>
    have:a.size=l.length+1:=h.symm
    simp[Array.isEmpty,this]
theorem ydi {P:Program}{w:World}{b ck:Nat}{en:Array MapEntry}(h:w.heap[b]?=some (.map en ck)):(getObj b).run P w = .ok (.map en ck) w:=by
  simp[getObj,Sem.run,h]
theorem yd2 {P:Program}{w:World}{b ck:Nat}{en:Array MapEntry}(o:Obj)(h:w.heap[b]?=some (.map en ck)):(setObj b o).run P w = .ok () { w with heap:=w.heap.setIfInBounds b o }:=by
  simp[setObj,Sem.run,h]
theorem wrSet {w:World}{b:Nat}{o:Obj}:Wr w { w with heap:=w.heap.setIfInBounds b o } b:=⟨rfl,rfl,rfl,rfl,by simp,λk hk=>by
  show (w.heap.setIfInBounds b o)[k]?=_
  rw[Array.getElem?_setIfInBounds,if_neg (λe=>hk e.symm)]⟩
section
variable {P:Program} {R:Type} {r:R} {o:Oper} {ev:Operand→AV} {h:Hs} {k:AV→Hs→Option R}
theorem ok_makeMap {t:TypeId}{res:Option Operand}(ho:o.op = .makeMap t res)(hk:cMakeMap h k res=some r):∃ v h',k v h'=some r∧SOk P o ev h v h':=by
  unfold cMakeMap at hk
  cases res with
  | some _=>exact nomatch hk
  | none=>
    obtain⟨hu,hk⟩:=newE_some hk
    refine⟨_,_,hk,SOk.put (λP0 E look w ρ hh hq _ hv => ?_)⟩
    have g:Grow w { w with heap:=w.heap.push (.map #[] 0) }:=growPush _ _
    obtain⟨g1,g2⟩:=HREL.new (q:=h.nx) (n:=0) (e := .map []) hh (hq.trans hu) g (by simp) ⟨w.heap.size,0,#[],0,if_pos rfl,by simp,rfl,rfl,λj e h=>by simp at h⟩
    refine .inl ⟨.map (some w.heap.size),_,?_,_,g1,g2,w.heap.size,0,if_pos rfl,rfl⟩
    unfold execOp;rw[ho]
    simp only[Option.map_none,Instr.makeMap,Sem.run_bind,Sem.run_pure,Result.andThen_ok,run_newObj]
theorem ok_lookup {t:TypeId} {x y:Operand} {ok:Bool} (ho:o.op = .lookup t x y ok) (hk:cLookup P h k t (ev x) (ev y) ok=some r):∃ v h',k v h'=some r∧SOk P o ev h v h':=by
  unfold cLookup at hk
  split at hk
  · rename_i kt et kx q hu hx hm
    split at hk
    · rename_i es kind hl hkt
      -- what the run asks
      have main:∀ {P0:Nat→Prop} {E:Env} {look:Nat→Ent} {w:World} {ρ:Operand→Value},HREL P0 E look w→look q=h.look q→(∀ x∈o.op.operands.toList,V E (ev x) (ρ x)) →
          ∃ b en ck,ρ x = .map (some b)∧ρ y=kx∧w.heap[b]?=some (.map en ck)∧MREL E es en.toList∧en.isEmpty=es.isEmpty:=by
        intro P0 E look w ρ hh hq hv
        have h1:=hv x (opnd ho (by simp[Op.operands]))
        have h2:=hv y (opnd ho (by simp[Op.operands]))
        rw[hm]at h1
        obtain⟨b,n,e1,e2⟩:=h1
        injection e2 with e2 _
        obtain⟨b',n',en,ck,e3,e4,e5,_⟩:=ent_map hh (hq.trans hl)
        rw[e1]at e3;injection e3 with e3;injection e3 with e3 _;subst e3
        refine⟨b,en,ck,e2,toVal_ok hx h2,e4,e5,?_⟩
        have:=MREL_len _ _ e5
        exact isEmpty_len this
      have fin:∀ {P0:Nat→Prop} {E:Env} {look:Nat→Ent} {w:World} {ρ:Operand→Value} {b:Nat} {en:Array MapEntry} {ck:Nat} {u:Unit} {v0:Value} {bb:Bool},ρ x = .map (some b)→ρ y=kx→w.heap[b]?=some (.map en ck)→en.isEmpty=es.isEmpty →
          pureRun P (Instr.checkKey es.isEmpty 10000 kt kx)=some u→((∃ j,(Instr.findKey kt kx en.toList).run P w = .ok (some (j,v0)) w∧bb=true)∨((Instr.findKey kt kx en.toList).run P w = .ok none w∧pureRun P (zeroValue et)=some v0∧bb=false)) →
          (execOp ρ o).run P w = .ok (.value (if ok=true then .tuple #[v0,.bool bb] else v0)) w:=by
        intro P0 E look w ρ b en ck u v0 bb h1 h2 h3 h4 h5 h6
        unfold execOp;rw[ho]
        have hck:=ycL _ _ w h5
        rw[← h4]at hck
        simp only[Instr.lookup,Sem.run_bind,Va.run_underlying hu,Result.andThen_ok,h1,h2,ydi h3,Sem.run_pure,hck]
        rcases h6 with ⟨j,h6,rfl⟩ | ⟨h6,h7,rfl⟩
        · simp only[h6,Sem.run_pure,Result.andThen_ok]
          try (cases ok<;>rfl)
        · simp only[h6,Sem.run_pure,Result.andThen_ok,Sem.run_bind,ycL _ _ w h7]
          try (cases ok<;>rfl)
      split at hk
      · rename_i u j v hc hf
        cases ok with
        | true=>
          simp only[]at hk
          refine⟨_,_,hk,SOk.read (λP0 E look w ρ hh hq hv => ?_)⟩
          obtain⟨b,en,ck,g1,g2,g3,g4,g5⟩:=main hh hq hv
          obtain⟨y0,k1,k2,_⟩:=findK_some hkt g4 hf w
          exact⟨_,fin (P0:=P0) (E:=E) (look:=look) (bb:=true) g1 g2 g3 g5 hc (.inl ⟨_,k1,rfl⟩),_,rfl,_,_,rfl,k2,_,_,rfl,rfl,rfl⟩
        | false=>
          simp only[]at hk
          refine⟨_,_,hk,SOk.read (λP0 E look w ρ hh hq hv => ?_)⟩
          obtain⟨b,en,ck,g1,g2,g3,g4,g5⟩:=main hh hq hv
          obtain⟨y0,k1,k2,_⟩:=findK_some hkt g4 hf w
          exact⟨_,fin (P0:=P0) (E:=E) (look:=look) (bb:=true) g1 g2 g3 g5 hc (.inl ⟨_,k1,rfl⟩),k2⟩
      · rename_i u z hc hf hz
        cases ok with
        | true=>
          simp only[yba]at hk
          refine⟨_,_,hk,SOk.read (λP0 E look w ρ hh hq hv => ?_)⟩
          obtain⟨b,en,ck,g1,g2,g3,g4,g5⟩:=main hh hq hv
          have k1:=findK_none hkt g4 hf w
          exact⟨_,fin (P0:=P0) (E:=E) (look:=look) (bb:=false) g1 g2 g3 g5 hc (.inr ⟨k1,hz,rfl⟩),_,rfl,_,_,rfl,fromVal_ok z,_,_,rfl,rfl,rfl⟩
        | false=>
          simp only[yba]at hk
          refine⟨_,_,hk,SOk.read (λP0 E look w ρ hh hq hv => ?_)⟩
          obtain⟨b,en,ck,g1,g2,g3,g4,g5⟩:=main hh hq hv
          have k1:=findK_none hkt g4 hf w
          exact⟨_,fin (P0:=P0) (E:=E) (look:=look) (bb:=false) g1 g2 g3 g5 hc (.inr ⟨k1,hz,rfl⟩),fromVal_ok z⟩
      · exact nomatch hk
    · exact nomatch hk
  · exact nomatch hk
theorem ok_update {t:TypeId} {x y z:Operand} (ho:o.op = .mapUpdate t x y z∨o.op = .insert t x y z) (hk:cUpdate P h k t (ev x) (ev y) (ev z)=some r):∃ v h',k v h'=some r∧SOk P o ev h v h':=by
  have hmem:∀ a,(a=x∨a=y∨a=z)→a∈o.op.operands.toList:=λa ha=>by
    rcases ho with ho | ho<;>exact opnd ho (by simp only[Op.operands];rcases ha with rfl | rfl | rfl<;>simp)
  have hexec:∀ {ρ:Operand→Value} {w w':World},(Instr.mapUpdate t (ρ x) (ρ y) (ρ z)).run P w = .ok () w'→(execOp ρ o).run P w = .ok .skip w':=by
    intro ρ w w' h1
    unfold execOp
    rcases ho with ho | ho<;>(rw[ho];simp only[Sem.run_bind,h1,Result.andThen_ok,Sem.run_pure])
  unfold cUpdate at hk
  split at hk
  · rename_i kt et kx q hu hx hm
    split at hk
    · rename_i es kind hl hkt
      have main:∀ {P0:Nat→Prop} {E:Env} {look:Nat→Ent} {w:World} {ρ:Operand→Value},HREL P0 E look w→look q=h.look q→(∀ x∈o.op.operands.toList,V E (ev x) (ρ x)) →
          ∃ b n en ck,E q=some (b,n)∧ρ x = .map (some b)∧ρ y=kx∧V E (ev z) (ρ z)∧w.heap[b]?=some (.map en ck)∧MREL E es en.toList∧Born en ck:=by
        intro P0 E look w ρ hh hq hv
        have h1:=hv x (hmem x (.inl rfl))
        have h2:=hv y (hmem y (.inr (.inl rfl)))
        rw[hm]at h1
        obtain⟨b,n,e1,e2⟩:=h1
        injection e2 with e2 _
        obtain⟨b',n',en,ck,e3,e4,e5,e6⟩:=ent_map hh (hq.trans hl)
        rw[e1]at e3;injection e3 with e3;injection e3 with e3 e3'; subst e3 e3'
        exact⟨b,n,en,ck,e1,e2,toVal_ok hx h2,hv z (hmem z (.inr (.inr rfl))),e4,e5,e6⟩
      have hset:∀ {w:World} {b:Nat} {en:Array MapEntry} {ck:Nat} (o':Obj),w.heap[b]?=some (.map en ck)→({ w with heap:=w.heap.setIfInBounds b o' }:World).heap[b]?=some o':=by
        intro w b en ck o' h1
        show (w.heap.setIfInBounds b o')[b]?=_
        rw[Array.getElem?_setIfInBounds,if_pos rfl,if_pos (lt_of_some h1)]
      split at hk
      · rename_i u j v0 hc hf
        split at hk
        · rename_i k' v1 hj
          split at hk
          · rename_i hsb
            rw[putE_eq]at hk
            refine⟨_,_,hk,SOk.put (λP0 E look w ρ hh hq _ hv => ?_)⟩
            obtain⟨b,n,en,ck,g0,g1,g2,g3,g4,g5,g6⟩:=main hh hq hv
            obtain⟨y0,k1,k2,e,k'',k4,k5,k6⟩:=findK_some hkt g5 hf w
            rw[k5]at hj;injection hj with hj;injection hj with hj _;subst hj
            have hej:en[j]?=some e:=by rw[← Array.getElem?_toList];exact k4
            refine .inr (.inl ⟨_,hexec (w':={ w with heap:=w.heap.setIfInBounds b (.map (en.modify j λe=>{ e with key:=kx,val:=ρ z }) ck) }) ?_,E,?_⟩)
            · rw[g1,g2]
              simp only[Instr.mapUpdate,Sem.run_bind,Va.run_underlying hu,Result.andThen_ok,ydi g4,Sem.run_pure,ycL _ _ w hc,k1,hej,Option.map_some,Option.getD_some,Instr.keyThatStays,k6,hsb,if_true,yd2 _ g4]
            · obtain⟨j1,j2⟩:=HREL.set (e := .map (setM es j (kx,ev z))) hh (by rw[hq];show (h.look q).isLive=true;rw[show h.look q = .map es from hl];rfl) g0 wrSet
                ⟨b,n,_,ck,g0,hset _ g4,by rw[Array.toList_modify];exact MREL_set g3 _ _ j g5,Born.modify (f:=λe=>{ e with key:=kx,val:=ρ z }) g6 (λ_=>rfl)⟩ (.inl rfl)
              exact⟨j1,j2,trivial⟩
          · exact nomatch hk
        · exact nomatch hk
      · rename_i u hc hf
        rw[putE_eq]at hk
        refine⟨_,_,hk,SOk.put (λP0 E look w ρ hh hq _ hv => ?_)⟩
        obtain⟨b,n,en,ck,g0,g1,g2,g3,g4,g5,g6⟩:=main hh hq hv
        have k1:=findK_none hkt g5 hf w
        refine .inr (.inl ⟨_,hexec (w':={ w with heap:=w.heap.setIfInBounds b (.map (en.push { key:=kx,val:=ρ z,born:=ck }) (ck+1)) }) ?_,E,?_⟩)
        · rw[g1,g2]
          simp only[Instr.mapUpdate,Sem.run_bind,Va.run_underlying hu,Result.andThen_ok,ydi g4,Sem.run_pure,ycL _ _ w hc,k1,yd2 _ g4]
        · obtain⟨j1,j2⟩:=HREL.set (e := .map (es++[(kx,ev z)])) hh (by rw[hq];show (h.look q).isLive=true;rw[show h.look q = .map es from hl];rfl) g0 wrSet
            ⟨b,n,en.push { key:=kx,val:=ρ z,born:=ck },ck+1,g0,hset _ g4,by rw[Array.toList_push];exact MREL_push g3 _ _ g5,Born.push g6⟩ (.inl rfl)
          exact⟨j1,j2,trivial⟩
      · exact nomatch hk
    · exact nomatch hk
  · exact nomatch hk
theorem MREL_get {E:Env}:∀ (es:List (Value×AV)) (en:List MapEntry) (j:Nat) (k':Value) (v:AV),MREL E es en→es[j]?=some (k',v)→∃ e,en[j]?=some e∧e.key=k'∧V E v e.val
  | [],_,j,_,_,_,h=>by simp at h
  | (k,u)::es,en,0,k',v,⟨e,r,h1,h2,h3,h4⟩,h=>by
    subst h1
    simp at h
    obtain⟨rfl,rfl⟩:=h
    exact⟨e,rfl,h2,h3⟩
  | (k,u)::es,en,j+1,k',v,⟨e,r,h1,h2,h3,h4⟩,h=>by
    subst h1
    simp at h
    obtain⟨e',g1,g2,g3⟩:=MREL_get es r j k' v h4 h
    exact⟨e',by simpa using g1,g2,g3⟩
theorem MREL_key {E:Env}{x:Value}{v:AV}:∀ (es:List (Value×AV)) (en:List MapEntry) (j:Nat),(∀ e,en[j]?=some e→V E v e.val)→MREL E es en→MREL E (setM es j (x,v)) (en.modify j λe=>{ e with key:=x })
  | [],en,j,_,h=>by rw[show en=[] from h];cases j<;>rfl
  | _::es,en,0,hv,⟨e,r,h1,_,_,h4⟩=>by subst h1;exact⟨_,r,rfl,rfl,hv e rfl,h4⟩
  | (k,u)::es,en,j+1,hv,⟨e,r,h1,h2,h3,h4⟩=>by subst h1;exact⟨e,_,rfl,h2,h3,MREL_key es r j (λe he=>hv e (by simpa using he)) h4⟩
theorem MREL_val {E:Env}{k' y:Value}{v u0:AV}(hv:V E v y):∀ (es:List (Value×AV)) (en:List MapEntry) (j:Nat),es[j]?=some (k',u0)→MREL E es en→MREL E (setM es j (k',v)) (en.modify j λe=>{ e with val:=y })
  | [],en,j,h,_=>by simp at h
  | (k,u)::es,en,0,hk,⟨e,r,h1,h2,_,h4⟩=>by
    subst h1
    simp at hk
    obtain⟨rfl,rfl⟩:=hk
    exact⟨_,r,rfl,h2,hv,h4⟩
  | (k,u)::es,en,j+1,hk,⟨e,r,h1,h2,h3,h4⟩=>by subst h1;exact⟨e,_,rfl,h2,h3,MREL_val hv es r j (by simpa using hk) h4⟩
theorem born_find {en:Array MapEntry}{k:Nat}(h:Born en k){j:Nat}{e:MapEntry}(he:en[j]?=some e):en.findIdx? (λe=>(e.born:Int)==(j:Int))=some j:=by
  obtain⟨hj,hej⟩:=Array.getElem?_eq_some_iff.1 he
  rw[Array.findIdx?_eq_some_iff_getElem]
  refine⟨hj,?_,λi hi => ?_⟩
  · rw[h.2 j en[j] (Array.getElem?_eq_getElem hj)];exact beq_self_eq_true _
  · have hi':i<en.size:=by omega
    rw[h.2 i en[i] (Array.getElem?_eq_getElem hi')]
    simp;omega
theorem ok_entry {t:TypeId} {x y:Operand} (ho:o.op = .mapEntry t x y) (hk:cEntry P h k t (ev x) (ev y)=some r):∃ v h',k v h'=some r∧SOk P o ev h v h':=by
  have hexec:∀ {ρ:Operand→Value} {w w':World} {v:Value},(Instr.mapEntry t (ρ x) (ρ y)).run P w = .ok v w'→(execOp ρ o).run P w = .ok (.value v) w':=by
    intro ρ w w' v h1
    unfold execOp
    rw[ho];simp only[Sem.run_bind,h1,Result.andThen_ok,Sem.run_pure]
  unfold cEntry at hk
  split at hk
  · rename_i kt et kx q hu hx hm
    split at hk
    · rename_i es kind hl hkt
      have main:∀ {P0:Nat→Prop} {E:Env} {look:Nat→Ent} {w:World} {ρ:Operand→Value},HREL P0 E look w→look q=h.look q→(∀ x∈o.op.operands.toList,V E (ev x) (ρ x)) →
          ∃ b n en ck,E q=some (b,n)∧ρ x = .map (some b)∧ρ y=kx∧w.heap[b]?=some (.map en ck)∧MREL E es en.toList∧Born en ck:=by
        intro P0 E look w ρ hh hq hv
        have h1:=hv x (opnd ho (by simp[Op.operands]))
        have h2:=hv y (opnd ho (by simp[Op.operands]))
        rw[hm]at h1
        obtain⟨b,n,e1,e2⟩:=h1
        injection e2 with e2 _
        obtain⟨b',n',en,ck,e3,e4,e5,e6⟩:=ent_map hh (hq.trans hl)
        rw[e1]at e3;injection e3 with e3;injection e3 with e3 e3'; subst e3 e3'
        exact⟨b,n,en,ck,e1,e2,toVal_ok hx h2,e4,e5,e6⟩
      have hset:∀ {w:World} {b:Nat} {en:Array MapEntry} {ck:Nat} (o':Obj),w.heap[b]?=some (.map en ck)→({ w with heap:=w.heap.setIfInBounds b o' }:World).heap[b]?=some o':=by
        intro w b en ck o' h1
        show (w.heap.setIfInBounds b o')[b]?=_
        rw[Array.getElem?_setIfInBounds,if_pos rfl,if_pos (lt_of_some h1)]
      split at hk
      · rename_i u j v0 hc hf
        split at hk
        · rename_i k' v1 hj
          split at hk
          · rename_i hsb
            rw[putE_eq]at hk
            refine⟨_,_,hk,SOk.put (λP0 E look w ρ hh hq _ hv => ?_)⟩
            obtain⟨b,n,en,ck,g0,g1,g2,g4,g5,g6⟩:=main hh hq hv
            obtain⟨y0,k1,k2,e,k'',k4,k5,k6⟩:=findK_some hkt g5 hf w
            rw[k5]at hj;injection hj with hj;injection hj with hj _;subst hj
            have hej:en[j]?=some e:=by rw[← Array.getElem?_toList];exact k4
            obtain⟨e',m1,m2,m3⟩:=MREL_get _ _ _ _ _ g5 k5
            rw[k4]at m1;injection m1 with m1;subst m1
            have hb:=g6.2 j e hej
            refine .inl ⟨.tuple #[y0,.int .i64 j],{ w with heap:=w.heap.setIfInBounds b (.map (en.modify j λe=>{ e with key:=kx }) ck) },hexec ?_,E,?_⟩
            · rw[g1,g2]
              simp only[Instr.mapEntry,Sem.run_bind,Va.run_underlying hu,Result.andThen_ok,ydi g4,Sem.run_pure,ycL _ _ w hc,k1,hej,Option.map_some,Option.getD_some,Instr.keyThatStays,k6,hsb,if_true,yd2 _ g4,hb]
              rfl
            · obtain⟨j1,j2⟩:=HREL.set (e := .map (setM es j (kx,v0))) hh (by rw[hq];show (h.look q).isLive=true;rw[show h.look q = .map es from hl];rfl) g0 wrSet
                ⟨b,n,_,ck,g0,hset _ g4,by rw[Array.toList_modify];exact MREL_key _ _ j (λe2 he2=>by rw[k4]at he2;injection he2 with he2;rw[← he2];exact m3) g5,Born.modify (f:=λe=>{ e with key:=kx }) g6 (λ_=>rfl)⟩ (.inl rfl)
              exact⟨j1,j2,#[y0,.int .i64 j],rfl,y0,[.int .i64 j],rfl,k2,_,[],rfl,rfl,rfl⟩
          · exact nomatch hk
        · exact nomatch hk
      · rename_i u z hc hf hz
        rw[yba,putE_eq]at hk
        refine⟨_,_,hk,SOk.put (λP0 E look w ρ hh hq _ hv => ?_)⟩
        obtain⟨b,n,en,ck,g0,g1,g2,g4,g5,g6⟩:=main hh hq hv
        have k1:=findK_none hkt g5 hf w
        have hck:ck=es.length:=by rw[g6.1,MREL_len _ _ g5,Array.length_toList]
        refine .inl ⟨.tuple #[z,.int .i64 es.length],{ w with heap:=w.heap.setIfInBounds b (.map (en.push { key:=kx,val:=z,born:=ck }) (ck+1)) },hexec ?_,E,?_⟩
        · rw[g1,g2]
          simp only[Instr.mapEntry,Sem.run_bind,Va.run_underlying hu,Result.andThen_ok,ydi g4,Sem.run_pure,ycL _ _ w hc,k1,ycL _ _ w hz,yd2 _ g4,hck]
          rfl
        · obtain⟨j1,j2⟩:=HREL.set (e := .map (es++[(kx,fromVal z)])) hh (by rw[hq];show (h.look q).isLive=true;rw[show h.look q = .map es from hl];rfl) g0 wrSet
            ⟨b,n,en.push { key:=kx,val:=z,born:=ck },ck+1,g0,hset _ g4,by rw[Array.toList_push];exact MREL_push (fromVal_ok z) _ _ g5,Born.push g6⟩ (.inl rfl)
          exact⟨j1,j2,#[z,.int .i64 es.length],rfl,z,[.int .i64 es.length],rfl,fromVal_ok z,_,[],rfl,rfl,rfl⟩
      · exact nomatch hk
    · exact nomatch hk
  · exact nomatch hk
theorem ok_entryStore {t:TypeId} {x y z:Operand} (ho:o.op = .entryStore t x y z) (hk:cEntryStore h k (ev x) (ev y) (ev z)=some r):∃ v h',k v h'=some r∧SOk P o ev h v h':=by
  have hexec:∀ {ρ:Operand→Value} {w w':World},(Instr.entryStore t (ρ x) (ρ y) (ρ z)).run P w = .ok () w'→(execOp ρ o).run P w = .ok .skip w':=by
    intro ρ w w' h1
    unfold execOp
    rw[ho];simp only[Sem.run_bind,h1,Result.andThen_ok,Sem.run_pure]
  unfold cEntryStore at hk
  split at hk
  · rename_i q kd j hm hs
    split at hk
    · rename_i es hl
      split at hk
      · rename_i k' u0 hj
        rw[putE_eq]at hk
        refine⟨_,_,hk,SOk.put (λP0 E look w ρ hh hq _ hv => ?_)⟩
        have h1:=hv x (opnd ho (by simp[Op.operands]))
        have h2:=hv y (opnd ho (by simp[Op.operands]))
        have h3:=hv z (opnd ho (by simp[Op.operands]))
        rw[hm]at h1
        rw[hs]at h2
        obtain⟨b,n,e1,e2⟩:=h1
        injection e2 with e2 _
        have h2:=V_val.1 h2
        obtain⟨b',n',en,ck,e3,e4,e5,e6⟩:=ent_map hh (hq.trans hl)
        rw[e1]at e3;injection e3 with e3;injection e3 with e3 e3'; subst e3 e3'
        obtain⟨e',m1,m2,m3⟩:=MREL_get _ _ _ _ _ e5 hj
        have hf:=born_find e6 (j:=j) (e:=e') (by rw[← Array.getElem?_toList];exact m1)
        have hset:({ w with heap:=w.heap.setIfInBounds b (.map (en.modify j λe=>{ e with val:=ρ z }) ck) }:World).heap[b]?=some (.map (en.modify j λe=>{ e with val:=ρ z }) ck):=by
          show (w.heap.setIfInBounds b _)[b]?=_
          rw[Array.getElem?_setIfInBounds,if_pos rfl,if_pos (lt_of_some e4)]
        refine .inr (.inl ⟨_,hexec (w':={ w with heap:=w.heap.setIfInBounds b (.map (en.modify j λe=>{ e with val:=ρ z }) ck) }) ?_,E,?_⟩)
        · rw[e2,h2]
          simp only[Instr.entryStore,Sem.run_bind,Result.andThen_ok,ydi e4,asInt,Sem.run_pure]
          change (match en.findIdx? (λe=>(e.born:Int)==(j:Int)) with | some i=>_ | none=>_:Sem Unit).run P w=_
          rw[hf]
          exact yd2 _ e4
        · obtain⟨j1,j2⟩:=HREL.set (e := .map (setM es j (k',ev z))) hh (by rw[hq];show (h.look q).isLive=true;rw[show h.look q = .map es from hl];rfl) e1 wrSet
            ⟨b,n,_,ck,e1,hset,by rw[Array.toList_modify];exact MREL_val h3 _ _ j hj e5,Born.modify (f:=λe=>{ e with val:=ρ z }) e6 (λ_=>rfl)⟩ (.inl rfl)
          exact⟨j1,j2,trivial⟩
      · exact nomatch hk
    · exact nomatch hk
  · exact nomatch hk
end
end Go.Co
