/-
  Co, part 4: lists of cells, forcing, new objects, changed objects.
-/
import Derived.Test.YtemhlkdingkjnaaGreatDoorCoRun
import Derived.Test.YtemhlkdingkjnaaGreatDoorVaOps12
set_option linter.unusedVariables false
set_option linter.unusedSimpArgs false
namespace Go.Co
open Go
open Go.Va (Grow getAt setAt NoFr Ty TE findT TabOk TyIs zc ybl Wr At Keep)
section force
variable {α:Type}
def forceN (n:Nat)(k:Nat→α):α:=match n with
  | 0=>k 0
  | m+1=>k (m+1)
theorem forceN_eq (n:Nat)(k:Nat→α):forceN n k=k n:=by cases n<;>rfl
def forceI (i:Int)(k:Int→α):α:=match i with
  | .ofNat n=>forceN n λn=>k (.ofNat n)
  | .negSucc n=>forceN n λn=>k (.negSucc n)
theorem forceI_eq (i:Int)(k:Int→α):forceI i k=k i:=by cases i<;>simp only[forceI,forceN_eq]
def forceB (b:Bool)(k:Bool→α):α:=match b with
  | true=>k true
  | false=>k false
theorem forceB_eq (b:Bool)(k:Bool→α):forceB b k=k b:=by cases b<;>rfl
def forceU (l:List UInt8)(k:List UInt8→α):α:=match l with
  | []=>k []
  | x::r=>forceN x.toNat λn=>forceU r λr=>k (UInt8.ofNat n::r)
theorem forceU_eq:∀ (l:List UInt8) (k:List UInt8→α),forceU l k=k l
  | [],_=>rfl
  | x::r,k=>by simp only[forceU,forceN_eq,forceU_eq r,UInt8.ofNat_toNat]
def forceV (x:Value)(k:Value→α):α:=match x with
  | .int kd n=>forceI n λn=>k (.int kd n)
  | .bool b=>forceB b λb=>k (.bool b)
  | .string s=>forceU s.data.toList λl=>k (.string ⟨⟨l⟩⟩)
  | x=>k x
theorem forceV_eq (x:Value)(k:Value→α):forceV x k=k x:=by
  unfold forceV;split
  · rw[forceI_eq]
  · rw[forceB_eq]
  · rw[forceU_eq]
  · rfl
def ybL:AV→(AV→α)→α
  | .bad,k=>k .bad
  | .val x,k=>forceV x λx=>k (.val x)
  | .ptr r off,k=>forceN r λr=>forceN off λoff=>k (.ptr r off)
  | .sl r off len lo esz ex,k=>forceN r λr=>forceN off λoff=>forceN len λlen=>forceN lo λlo=>forceN esz λesz=>forceB ex λex=>k (.sl r off len lo esz ex)
  | .mp r,k=>forceN r λr=>k (.mp r)
  | .es,k=>k .es
  | .fn f a b,k=>ybL a λa=>ybL b λb=>k (.fn f a b)
  | .ifc t v,k=>ybL v λv=>k (.ifc t v)
  | .agg l,k=>ybL l λl=>k (.agg l)
  | .tup l,k=>ybL l λl=>k (.tup l)
  | .done,k=>k .done
  | .cons a b,k=>ybL a λa=>ybL b λb=>k (.cons a b)
theorem yba:∀ (v:AV) (k:AV→α),ybL v k=k v
  | .bad,_=>rfl
  | .val x,k=>by simp only[ybL,forceV_eq]
  | .ptr r off,k=>by simp only[ybL,forceN_eq]
  | .sl r off len lo esz ex,k=>by simp only[ybL,forceN_eq,forceB_eq]
  | .mp r,k=>by simp only[ybL,forceN_eq]
  | .es,_=>rfl
  | .fn f a b,k=>by simp only[ybL];rw[yba a,yba b]
  | .ifc t v,k=>by simp only[ybL];rw[yba v]
  | .agg l,k=>by simp only[ybL];rw[yba l]
  | .tup l,k=>by simp only[ybL];rw[yba l]
  | .done,_=>rfl
  | .cons a b,k=>by simp only[ybL];rw[yba a,yba b]
def forceM:List (Value×AV)→(List (Value×AV)→α)→α
  | [],k=>k []
  | (x,v)::r,k=>forceV x λx=>ybL v λv=>forceM r λr=>k ((x,v)::r)
theorem forceM_eq:∀ (l:List (Value×AV)) (k:List (Value×AV)→α),forceM l k=k l
  | [],_=>rfl
  | (x,v)::r,k=>by simp only[forceM,forceV_eq,yba,forceM_eq r]
def forceE (e:Ent)(k:Ent→α):α:=match e with
  | .un=>k .un
  | .dead=>k .dead
  | .cells l=>ybL l λl=>k (.cells l)
  | .map m=>forceM m λm=>k (.map m)
theorem forceE_eq (e:Ent)(k:Ent→α):forceE e k=k e:=by cases e<;>simp only[forceE,yba,forceM_eq]
end force
def lenA:AV→Nat
  | .cons _ b=>lenA b+1
  | _=>0
def isL:AV→Bool
  | .done=>true
  | .cons _ b=>isL b
  | _=>false
def skip:AV→Nat→Option AV
  | v,0=>some v
  | .cons _ b,n+1=>skip b n
  | _,_=>none
def takeA:AV→Nat→Option AV
  | _,0=>some .done
  | .cons a b,n+1=>match takeA b n with
    | some r=>some (.cons a r)
    | none=>none
  | _,_=>none
def appA:AV→AV→AV
  | .cons a b,m => .cons a (appA b m)
  | _,m=>m
def putA (l:AV)(off:Nat)(m:AV):Option AV:=
  match takeA l off,skip l (off+lenA m) with
  | some a,some b=>some (appA a (appA m b))
  | _,_=>none
def valA:List Value→AV
  | [] => .done
  | x::r => .cons (.val x) (valA r)
def cellsA:AV→AV
  | .agg l=>l
  | .val (.agg a)=>valA a.toList
  | v => .cons v .done
def ofA (T:Ty) (l:AV):Option AV:=match T.agg with
  | true=>some (.agg l)
  | false=>match l with
    | .cons v .done=>some v
    | _=>none
section
variable {E:Env}
theorem C_len:∀ (l:AV) (cs:List Value),isL l=true→C E l cs→cs.length=lenA l
  | .done,cs,_,h=>by rw[show cs=[] from h];rfl
  | .cons a b,cs,hl,⟨x,r,e,_,h2⟩=>by rw[e,List.length_cons,C_len b r hl h2];rfl
  | .bad,_,hl,_=>nomatch hl
  | .val _,_,hl,_=>nomatch hl
  | .ptr _ _,_,hl,_=>nomatch hl
  | .sl _ _ _ _ _ _,_,hl,_=>nomatch hl
  | .mp _,_,hl,_=>nomatch hl
  | .es,_,hl,_=>nomatch hl
  | .fn _ _ _,_,hl,_=>nomatch hl
  | .ifc _ _,_,hl,_=>nomatch hl
  | .agg _,_,hl,_=>nomatch hl
  | .tup _,_,hl,_=>nomatch hl
theorem C_skip:∀ (l:AV) (n:Nat) (l':AV) (cs:List Value),skip l n=some l'→C E l cs→C E l' (cs.drop n)∧n≤cs.length
  | l,0,l',cs,h,hc=>by
    have:l=l':=by cases l<;>(simp only[skip]at h;injection h)
    subst this;exact⟨hc,Nat.zero_le _⟩
  | .cons a b,n+1,l',cs,h,⟨x,r,e,_,h2⟩=>by
    obtain⟨g1,g2⟩:=C_skip b n l' r h h2
    subst e;exact⟨g1,Nat.succ_le_succ g2⟩
  | .done,n+1,_,_,h,_=>nomatch h
  | .bad,n+1,_,_,h,_=>nomatch h
  | .val _,n+1,_,_,h,_=>nomatch h
  | .ptr _ _,n+1,_,_,h,_=>nomatch h
  | .sl _ _ _ _ _ _,n+1,_,_,h,_=>nomatch h
  | .mp _,n+1,_,_,h,_=>nomatch h
  | .es,n+1,_,_,h,_=>nomatch h
  | .fn _ _ _,n+1,_,_,h,_=>nomatch h
  | .ifc _ _,n+1,_,_,h,_=>nomatch h
  | .agg _,n+1,_,_,h,_=>nomatch h
  | .tup _,n+1,_,_,h,_=>nomatch h
theorem C_take:∀ (l:AV) (n:Nat) (l':AV) (cs:List Value),takeA l n=some l'→C E l cs→C E l' (cs.take n)∧n≤cs.length∧isL l'=true
  | l,0,l',cs,h,hc=>by
    have:l' = .done:=by cases l<;>(simp only[takeA]at h;injection h with h;exact h.symm)
    subst this;exact⟨rfl,Nat.zero_le _,rfl⟩
  | .cons a b,n+1,l',cs,h,⟨x,r,e,h1,h2⟩=>by
    simp only[takeA]at h
    split at h
    · rename_i r' hr
      injection h with h;subst h
      obtain⟨g1,g2,g3⟩:=C_take b n r' r hr h2
      subst e;exact⟨⟨x,_,rfl,h1,g1⟩,Nat.succ_le_succ g2,g3⟩
    · exact nomatch h
  | .done,n+1,_,_,h,_=>nomatch h
  | .bad,n+1,_,_,h,_=>nomatch h
  | .val _,n+1,_,_,h,_=>nomatch h
  | .ptr _ _,n+1,_,_,h,_=>nomatch h
  | .sl _ _ _ _ _ _,n+1,_,_,h,_=>nomatch h
  | .mp _,n+1,_,_,h,_=>nomatch h
  | .es,n+1,_,_,h,_=>nomatch h
  | .fn _ _ _,n+1,_,_,h,_=>nomatch h
  | .ifc _ _,n+1,_,_,h,_=>nomatch h
  | .agg _,n+1,_,_,h,_=>nomatch h
  | .tup _,n+1,_,_,h,_=>nomatch h
theorem C_app:∀ (l m:AV) (cs ds:List Value),isL l=true→C E l cs→C E m ds→C E (appA l m) (cs++ds)
  | .done,m,cs,ds,_,h,k=>by rw[show cs=[] from h];exact k
  | .cons a b,m,cs,ds,hl,⟨x,r,e,h1,h2⟩,k=>by
    subst e;exact⟨x,r++ds,rfl,h1,C_app b m r ds hl h2 k⟩
  | .bad,_,_,_,hl,_,_=>nomatch hl
  | .val _,_,_,_,hl,_,_=>nomatch hl
  | .ptr _ _,_,_,_,hl,_,_=>nomatch hl
  | .sl _ _ _ _ _ _,_,_,_,hl,_,_=>nomatch hl
  | .mp _,_,_,_,hl,_,_=>nomatch hl
  | .es,_,_,_,hl,_,_=>nomatch hl
  | .fn _ _ _,_,_,_,hl,_,_=>nomatch hl
  | .ifc _ _,_,_,_,hl,_,_=>nomatch hl
  | .agg _,_,_,_,hl,_,_=>nomatch hl
  | .tup _,_,_,_,hl,_,_=>nomatch hl
theorem C_put {l m l':AV}{off:Nat}{cs ms:List Value}(h:putA l off m=some l')(hm:isL m=true)(hc:C E l cs)(hd:C E m ms) :
    C E l' (cs.take off++ms++cs.drop (off+ms.length))∧off+ms.length≤cs.length:=by
  unfold putA at h
  split at h
  · rename_i a b ha hb
    injection h with h;subst h
    obtain⟨g1,g2,g3⟩:=C_take l off a cs ha hc
    rw[← C_len m ms hm hd]at hb
    obtain⟨k1,k2⟩:=C_skip l _ b cs hb hc
    refine⟨?_,k2⟩
    rw[List.append_assoc]
    exact C_app a _ _ _ g3 g1 (C_app m b _ _ hm hd k1)
  · exact nomatch h
theorem C_valA:∀ l:List Value,C E (valA l) l
  | []=>rfl
  | x::r=>⟨x,r,rfl,rfl,C_valA r⟩
theorem V_ofA {T:Ty}{l v:AV}{cs:List Value}(h:ofA T l=some v)(hc:C E l cs)(hl:cs.length=T.sz):V E v (ybl T cs):=by
  unfold ofA at h
  unfold ybl
  split at h
  · rename_i ha
    injection h with h;subst h
    rw[if_pos ha];exact⟨_,rfl,by simpa using hc⟩
  · rename_i ha
    split at h
    · rename_i v'
      injection h with h;subst h
      obtain⟨x,r,e,h1,h2⟩:=hc
      have:r=[]:=h2
      subst e this
      rw[if_neg (by rw[ha];simp)]
      exact h1
    · exact nomatch h
end
def oneA:AV→Bool
  | .val (.agg _) | .val (.tuple _)=>false
  | .val _ | .ptr _ _ | .sl _ _ _ _ _ _ | .mp _ | .es | .fn _ _ _ | .ifc _ _=>true
  | _=>false
def allOne:AV→Bool
  | .done=>true
  | .cons a b=>oneA a&&allOne b
  | _=>false
theorem oneA_ok {E:Env}{v:AV}{x:Value}(h:V E v x)(ho:oneA v=true):x.oneCell'=true:=by
  unfold V at h
  cases v with
  | val y=>
    have h:x=y:=by simpa[C]using h
    subst h
    cases x<;>first | rfl | exact nomatch ho
  | ptr r off=>obtain⟨b,n,e,h1⟩:=h;injection h1 with h1;subst h1;rfl
  | sl r off len lo esz ex=>obtain⟨b,n,c,e,h1,_⟩:=h;injection h1 with h1;subst h1;rfl
  | mp r=>obtain⟨b,n,e,h1⟩:=h;injection h1 with h1;subst h1;rfl
  | es=>obtain⟨a,c,h1⟩:=h;injection h1 with h1;subst h1;rfl
  | fn f a b=>obtain⟨b,n,h1,_⟩:=h;injection h1 with h1;subst h1;rfl
  | ifc t v=>obtain⟨y,h1,_⟩:=h;injection h1 with h1;subst h1;rfl
  | bad=>exact nomatch ho
  | agg _=>exact nomatch ho
  | tup _=>exact nomatch ho
  | done=>exact nomatch ho
  | cons _ _=>exact nomatch ho
theorem allOne_ok {E:Env}:∀ (l:AV) (cs:List Value),C E l cs→allOne l=true→∀ x∈cs,x.oneCell'=true
  | .done,cs,h,_,x,hx=>by rw[show cs=[] from h]at hx;exact nomatch hx
  | .cons a b,cs,⟨y,r,e,h1,h2⟩,ho,x,hx=>by
    simp only[allOne,Bool.and_eq_true]at ho
    subst e
    rcases List.mem_cons.1 hx with rfl | hx
    · exact oneA_ok h1 ho.1
    · exact allOne_ok b r h2 ho.2 x hx
  | .bad,_,_,ho,_,_=>nomatch ho
  | .val _,_,_,ho,_,_=>nomatch ho
  | .ptr _ _,_,_,ho,_,_=>nomatch ho
  | .sl _ _ _ _ _ _,_,_,ho,_,_=>nomatch ho
  | .mp _,_,_,ho,_,_=>nomatch ho
  | .es,_,_,ho,_,_=>nomatch ho
  | .fn _ _ _,_,_,ho,_,_=>nomatch ho
  | .ifc _ _,_,_,ho,_,_=>nomatch ho
  | .agg _,_,_,ho,_,_=>nomatch ho
  | .tup _,_,_,ho,_,_=>nomatch ho
theorem allOne_isL:∀ l:AV,allOne l=true→isL l=true
  | .done,_=>rfl
  | .cons a b,h=>by simp only[allOne,Bool.and_eq_true]at h;exact allOne_isL b h.2
  | .bad,ho=>nomatch ho
  | .val _,ho=>nomatch ho
  | .ptr _ _,ho=>nomatch ho
  | .sl _ _ _ _ _ _,ho=>nomatch ho
  | .mp _,ho=>nomatch ho
  | .es,ho=>nomatch ho
  | .fn _ _ _,ho=>nomatch ho
  | .ifc _ _,ho=>nomatch ho
  | .agg _,ho=>nomatch ho
  | .tup _,ho=>nomatch ho
theorem C_cellsA {E:Env}{v:AV}{x:Value}(h:V E v x)(ha:allOne (cellsA v)=true):C E (cellsA v) x.cells.toList:=by
  unfold V at h
  cases v with
  | bad=>exact nomatch ha
  | agg l=>obtain⟨a,e,h1⟩:=h;injection e with e;subst e;exact h1
  | val y=>
    have h:x=y:=by simpa[C]using h
    subst h
    cases x with
    | agg a=>exact C_valA _
    | _=>exact⟨_,[],rfl,rfl,rfl⟩
  | ptr r off=>
    obtain⟨b,n,e,h1⟩:=id h;injection h1 with h1;subst h1
    exact⟨_,[],rfl,h,rfl⟩
  | sl r off len lo esz ex=>
    obtain⟨b,n,c,e,h1,_⟩:=id h;injection h1 with h1;subst h1
    exact⟨_,[],rfl,h,rfl⟩
  | mp r=>
    obtain⟨b,n,e,h1⟩:=id h;injection h1 with h1;subst h1
    exact⟨_,[],rfl,h,rfl⟩
  | es=>
    obtain⟨a,c,h1⟩:=id h;injection h1 with h1;subst h1
    exact⟨_,[],rfl,h,rfl⟩
  | fn f a b=>
    obtain⟨b,n,h1,_⟩:=id h;injection h1 with h1;subst h1
    exact⟨_,[],rfl,h,rfl⟩
  | ifc t v=>
    obtain⟨y,h1,_⟩:=id h;injection h1 with h1;subst h1
    exact⟨_,[],rfl,h,rfl⟩
  | tup l=>
    obtain⟨y,h1,_⟩:=id h;injection h1 with h1;subst h1
    exact⟨_,[],rfl,h,rfl⟩
  | done=>exact nomatch ha
  | cons a b=>exact nomatch ha
def upE (E:Env)(q:Nat)(x:Nat×Nat):Env:=λr=>if r=q then some x else E r
theorem upE_sub {E:Env}{q:Nat}{x:Nat×Nat}(h:E q=none):∀ r y,E r=some y→upE E q x r=some y:=by
  intro r y hr
  unfold upE
  rw[if_neg];· exact hr
  · rintro rfl;rw[h]at hr;exact nomatch hr
theorem lt_of_some {w:World}{b:Nat}{o:Obj}(h:w.heap[b]?=some o):b<w.heap.size:=by
  rcases Nat.lt_or_ge b w.heap.size with hl | hl
  · exact hl
  · rw[Array.getElem?_eq_none hl]at h;exact nomatch h
theorem keepOf {w w':World}(g:Grow w w')(P0:Nat→Prop):Keep P0 w w':=⟨g.os,g.tape,g.output,g.size,λb _ hb=>g.block b hb⟩
theorem HREL.new {P0:Nat→Prop} {E:Env} {look:Nat→Ent} {w w':World} {q n:Nat} {e:Ent} (h:HREL P0 E look w) (hq:look q = .un) (g:Grow w w') (hlt:w.heap.size<w'.heap.size)
    (he:EREL (upE E q (w.heap.size,n)) w' q e):HREL P0 (upE E q (w.heap.size,n)) (updL [(q,e)] look) w'∧Ext P0 E w (upE E q (w.heap.size,n)) w':=by
  have hEq:E q=none:=by have:=h.ent q;rw[hq]at this;exact this
  have hsub:=upE_sub (x:=(w.heap.size,n)) hEq
  have hne:∀ {r:Nat},r≠q→upE E q (w.heap.size,n) r=E r:=λhr=>if_neg hr
  have hl:∀ {r:Nat},r≠q→updL [(q,e)] look r=look r:=fun {r} hr=>by
    simp only[updL];rw[if_neg (by simpa using hr)]
  have hlq:updL [(q,e)] look q=e:=by simp[updL]
  have hq1:upE E q (w.heap.size,n) q=some (w.heap.size,n):=if_pos rfl
  refine⟨⟨λr => ?_,λr r' b m m' h1 h2 h3 h4 => ?_,λr b m h1 h2 hp => ?_,λr b m h1 => ?_,λb hb=>Nat.lt_of_lt_of_le (h.pIn b hb) g.size⟩,hsub,keepOf g P0⟩
  · by_cases hr:r=q
    · subst hr;rw[hlq];exact he
    · rw[hl hr]
      exact (h.ent r).ext hsub (hne hr) (λb m _ hb=>g.block b (h.lt r b m hb))
  · by_cases hr:r=q
    · subst hr
      by_cases hr':r'=r
      · exact hr'.symm
      · rw[hq1]at h3;injection h3 with h3;injection h3 with h3 _
        rw[hne hr']at h4
        have:=h.lt r' b m' h4
        omega
    · by_cases hr':r'=q
      · subst hr'
        rw[hq1]at h4;injection h4 with h4;injection h4 with h4 _
        rw[hne hr]at h3
        have:=h.lt r b m h3
        omega
      · rw[hl hr]at h1;rw[hl hr']at h2;rw[hne hr]at h3;rw[hne hr']at h4
        exact h.inj r r' b m m' h1 h2 h3 h4
  · by_cases hr:r=q
    · subst hr
      rw[hq1]at h2;injection h2 with h2;injection h2 with h2 _
      have:=h.pIn b hp;omega
    · rw[hl hr]at h1;rw[hne hr]at h2
      exact h.sep r b m h1 h2 hp
  · by_cases hr:r=q
    · subst hr
      rw[hq1]at h1;injection h1 with h1;injection h1 with h1 _
      omega
    · rw[hne hr]at h1
      exact Nat.lt_of_lt_of_le (h.lt r b m h1) g.size
theorem HREL.set {P0:Nat→Prop}{E:Env}{look:Nat→Ent}{w w':World}{q b n:Nat}{e:Ent}(h:HREL P0 E look w)(hq:(look q).isLive=true)(hE:E q=some (b,n))(hw:Wr w w' b)
    (he:EREL E w' q e) (hlive:e.isLive=true∨e = .dead):HREL P0 E (updL [(q,e)] look) w'∧Ext P0 E w E w':=by
  have hl:∀ {r:Nat},r≠q→updL [(q,e)] look r=look r:=fun {r} hr=>by
    simp only[updL];rw[if_neg (by simpa using hr)]
  have hlq:updL [(q,e)] look q=e:=by simp[updL]
  have hb:¬ P0 b:=h.sep q b n hq hE
  have hlv:∀ {r:Nat},(updL [(q,e)] look r).isLive=true→(look r).isLive=true:=fun {r} hr=>by
    by_cases hrq:r=q
    · subst hrq;exact hq
    · rw[hl hrq]at hr;exact hr
  refine⟨⟨λr => ?_,λr r' b m m' h1 h2=>h.inj r r' b m m' (hlv h1) (hlv h2),λr b m h1=>h.sep r b m (hlv h1),λr b m h1 => ?_,λb hb => ?_⟩,λ_ _ h=>h,hw.keep hb⟩
  · by_cases hr:r=q
    · subst hr;rw[hlq];exact he
    · rw[hl hr]
      refine (h.ent r).ext (λ_ _ h=>h) rfl (λb' m hlive' hb'=>hw.block b' ?_)
      rintro rfl
      exact hr (h.inj r q b' m n hlive' hq hb' hE)
  · rw[hw.size];exact h.lt r b m h1
  · rw[hw.size];exact h.pIn b hb
section
variable {P:Program} {o:Oper} {ev:Operand→AV} {h:Hs} {v:AV}
theorem ydL (f:Nat→Ent):updL [] f=f:=rfl
theorem SOk.pure (H:∀ P0 E look w (ρ:Operand→Value),HREL P0 E look w→(∀ x∈o.op.operands.toList,V E (ev x) (ρ x))→∃ x,(execOp ρ o).run P w = .ok (.value x) w∧V E v x):SOk P o ev h v h:=
  ⟨[],[],.refl h,λlook' P0 E w ρ _ hh hv=>by
    obtain⟨x,h1,h2⟩:=H P0 E look' w ρ hh hv
    exact .inl ⟨x,w,h1,E,hh,.refl _ _ _,h2⟩⟩
theorem SOk.read {q:Nat}(H:∀ P0 E look w (ρ:Operand→Value),HREL P0 E look w→look q=h.look q→(∀ x∈o.op.operands.toList,V E (ev x) (ρ x))→∃ x,(execOp ρ o).run P w = .ok (.value x) w∧V E v x) :
    SOk P o ev h v ⟨h.H,h.nx,q::h.rl,h.wl⟩:=
  ⟨[q],[],⟨rfl,rfl,λ_ _=>rfl⟩,λlook' P0 E w ρ hl hh hv=>by
    obtain⟨x,h1,h2⟩:=H P0 E look' w ρ hh (hl q (.inl (List.mem_singleton.2 rfl))) hv
    exact .inl ⟨x,w,h1,E,hh,.refl _ _ _,h2⟩⟩
end
def Hs.put (h:Hs)(q:Nat)(e:Ent)(nx:Nat)(rl:List Nat):Hs:=⟨HT.set (q+1) h.H q e,nx,rl++h.rl,q::h.wl⟩
theorem Hs.put_look (h:Hs)(q:Nat)(e:Ent)(nx:Nat)(rl:List Nat):(h.put q e nx rl).look q=e:=by
  show (HT.set (q+1) h.H q e).get q=e
  rw[HT.get_set _ _ _ _ _ (Nat.lt_succ_self q),if_pos rfl]
theorem Hs.put_stp (h:Hs)(q:Nat)(e:Ent)(nx:Nat)(rl:List Nat):Stp h (h.put q e nx rl) rl [q]:=⟨rfl,rfl,λr hr=>by
  show (HT.set (q+1) h.H q e).get r=h.H.get r
  rw[HT.get_set _ _ _ _ _ (Nat.lt_succ_self q),if_neg (λe=>hr (List.mem_singleton.2 e))]⟩
section
variable {P:Program} {o:Oper} {ev:Operand→AV} {h:Hs} {v:AV}
theorem SOk.put {q:Nat}{e:Ent}{nx:Nat}{rl:List Nat}(H:∀ P0 E look w (ρ:Operand→Value),HREL P0 E look w→look q=h.look q→(∀ r∈rl,look r=h.look r)→(∀ x∈o.op.operands.toList,V E (ev x) (ρ x)) →
    Runs P o ρ w (Post P0 E look w v [(q,e)])):SOk P o ev h v (h.put q e nx rl):=
  ⟨rl,[q],h.put_stp q e nx rl,λlook' P0 E w ρ hl hh hv=>by
    have:=H P0 E look' w ρ hh (hl q (.inr (by simp))) (λr hr=>hl r (.inl hr)) hv
    simpa[h.put_look q e nx rl]using this⟩
end
def putE {R:Type}(h:Hs)(q:Nat)(e:Ent)(nx:Nat)(rl:List Nat)(k:Hs→Option R):Option R:=
  forceE e λe=>HT.setK (q+1) h.H q e λH=>k ⟨H,nx,rl++h.rl,q::h.wl⟩
theorem putE_eq {R:Type}(h:Hs)(q:Nat)(e:Ent)(nx:Nat)(rl:List Nat)(k:Hs→Option R):putE h q e nx rl k=k (h.put q e nx rl):=by
  unfold putE;rw[forceE_eq,HT.setK_eq];rfl
def newE {R:Type}(h:Hs)(e:Ent)(k:Nat→Hs→Option R):Option R:=match h.H.get h.nx with
  | .un=>forceN (h.nx+1) λn=>putE h h.nx e n [] λh'=>k h.nx h'
  | _=>none
theorem newE_some {R:Type}{h:Hs}{e:Ent}{k:Nat→Hs→Option R}{r:R}(hk:newE h e k=some r):h.look h.nx = .un∧k h.nx (h.put h.nx e (h.nx+1) [])=some r:=by
  unfold newE at hk
  split at hk
  · rename_i hu
    rw[forceN_eq,putE_eq]at hk
    exact⟨hu,hk⟩
  · exact nomatch hk
end Go.Co
