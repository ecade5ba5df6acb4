/-
  What the functions compute, by the abstract interpreter.
-/
import Derived.Test.YtemhlkdingkjnaaGreatDoorF0
import Derived.Maps.AppendAt
import Derived.Test.YtemhlkdingkjnaaGreatDoorF1
import Derived.OwnWalk
import Derived.LoopN
import Derived.Lib.Walk
import Derived.Test.YtemhlkdingkjnaaGreatDoorVaTab
import Derived.Deep.RegionWith
set_option linter.unusedVariables false
set_option linter.unusedSimpArgs false
namespace Go.Proofs.YtemhlkdingkjnaaGreatDoor
open Go Go.Va Go.Proofs
abbrev Dig:Type:=List Int
def digV (a:Dig):Value := .agg (a.map (Value.int .u8)).toArray
abbrev Grp:Type:=List (Dig×List Int)
def addG:Grp→Dig→Int→Grp
  | [],d,b=>[(d,[b])]
  | p::l,d,b=>if p.1=d then (p.1,p.2++[b])::l else p::addG l d b
def getG:Grp→Dig→List Int
  | [],_=>[]
  | p::l,d=>if p.1=d then p.2 else getG l d
theorem rd_dig {S:Nat→Prop}{w:World}{n:Nat}{a:Dig}{cs:List Value}(h:Rd S w (.arr n (.int .u8)) a cs):List.length (α:=Int) a=n∧cs=a.map (Value.int .u8):=by
  obtain⟨h1,h2⟩:=h
  refine⟨h1,?_⟩
  clear h1
  have:∀ (l:List Int) (cs:List Value),RdL (Rd S w (.int .u8)) l cs→cs=l.map (Value.int .u8):=by
    intro l
    induction l with
    | nil=>intro cs h;exact h
    | cons x l ih=>
      intro cs h
      obtain⟨c1,c2,e,g1,g2⟩:=h
      have g1:c1=[.int .u8 x]:=g1
      rw[e,g1,ih c2 g2];rfl
  exact this a cs h2
theorem dig_rd {S:Nat→Prop}{w:World}{n:Nat}{a:Dig}(h:a.length=n):Rd S w (.arr n (.int .u8)) a (a.map (Value.int .u8)):=by
  refine⟨h,?_⟩
  clear h
  have:∀ (l:List Int),RdL (Rd S w (.int .u8)) l (l.map (Value.int .u8)):=by
    intro l
    induction l with
    | nil=>exact rfl
    | cons x l ih=>exact⟨[.int .u8 x],_,rfl,rfl,ih⟩
  exact this a
theorem eqL_dec:∀ (a b:List Int),a.length=b.length→eqL (λx y:Int=>decide (x=y)) a b=decide (a=b)
  | [],[],_=>rfl
  | [],_::_,h=>absurd h (by simp)
  | _::_,[],h=>absurd h (by simp)
  | x::a,y::b,h=>by
    have ih:=eqL_dec a b (by simpa using h)
    change (decide (x=y)&&eqL (λx y:Int=>decide (x=y)) a b)=_
    rw[ih,← Bool.decide_and]
    exact decide_eq_decide.2 (by rw[List.cons.injEq])
theorem equal_dig {w:World}{a b:Dig}(ha:a.length=32)(hb:b.length=32):(Op.equal 47 (digV a) (digV b)).run Tryz.prog w = .ok (decide (a=b)) w:=by
  have h:=((equal_main (P:=Tryz.prog) (S:=λ_=>False) (w:=w) (.arr 32 (.int .u8))).1 200 10000 47 a b _ _ ((tyB_ok Tryz.prog (.arr 32 (.int .u8))).1 47 (by kernel_rfl)) rfl (by decide) (dig_rd ha) (dig_rd hb)).1
  have e:eqD (.arr 32 (.int .u8)) a b=decide (a=b):=eqL_dec a b (ha.trans hb.symm)
  rw[e]at h
  exact h
theorem ckey32 (em:Bool)(w:World)(x0 x1 x2 x3 x4 x5 x6 x7 x8 x9 x10 x11 x12 x13 x14 x15 x16 x17 x18 x19 x20 x21 x22 x23 x24 x25 x26 x27 x28 x29 x30 x31:Value) :
    (Instr.checkKey em 10000 47 (.agg #[x0,x1,x2,x3,x4,x5,x6,x7,x8,x9,x10,x11,x12,x13,x14,x15,x16,x17,x18,x19,x20,x21,x22,x23,x24,x25,x26,x27,x28,x29,x30,x31])).run Tryz.prog w = .ok () w:=by kernel_rfl
theorem ckey {em:Bool}{w:World}:∀ {a:Dig},a.length=32→(Instr.checkKey em 10000 47 (digV a)).run Tryz.prog w = .ok () w
  | [x0,x1,x2,x3,x4,x5,x6,x7,x8,x9,x10,x11,x12,x13,x14,x15,x16,x17,x18,x19,x20,x21,x22,x23,x24,x25,x26,x27,x28,x29,x30,x31],_=>ckey32 em w _ _ _ _ _ _ _ _ _ _ _ _ _ _ _ _ _ _ _ _ _ _ _ _ _ _ _ _ _ _ _ _
theorem same_dig (a:Dig):Instr.sameBits 10000 (digV a) (digV a)=true:=by
  unfold digV Instr.sameBits
  simp only[beq_self_eq_true,Bool.true_and,List.all_eq_true]
  intro p hp
  obtain⟨x,y⟩:=p
  have:∀ (l:List Value) (x y:Value),(x,y)∈l.zip l→x=y∧x∈l:=by
    intro l
    induction l with
    | nil=>intro x y h;simp at h
    | cons z l ih=>
      intro x y h
      rw[List.zip_cons_cons,List.mem_cons]at h
      rcases h with h | h
      · injection h with h1 h2;subst h1;subst h2;exact⟨rfl,by simp⟩
      · obtain⟨h1,h2⟩:=ih x y h;exact⟨h1,by simp[h2]⟩
  obtain⟨h1,h2⟩:=this _ x y hp
  subst h1
  obtain⟨z,_,rfl⟩:=List.mem_map.1 (by simpa using h2)
  unfold Instr.sameBits
  simp
def EntG (w:World)(base:Nat)(p:Dig×List Int)(e:MapEntry):Prop:=p.1.length=32∧e.key=digV p.1∧w.ownsRow base 22 1 e.val p.2.length (p.2.map (Value.int .u64))
def Apart (x y:MapEntry):Prop:=x.born≠y.born∧(x.val.ownBlock=none∨x.val.ownBlock≠y.val.ownBlock)
theorem Apart.symm {x y:MapEntry}(h:Apart x y):Apart y x:=by
  refine⟨Ne.symm h.1,?_⟩
  rcases h.2 with h2 | h2
  · cases hy:y.val.ownBlock with
    | none=>exact .inl rfl
    | some g=>right;rw[h2];simp
  · exact .inr (Ne.symm h2)
structure GrpOk (w:World)(M base:Nat)(G:Grp)(es:Array MapEntry)(clk:Nat):Prop where
  obj:w.heap[M]?=some (.map es clk)
  low:M<base
  len:es.toList.length=G.length
  ent:∀ (i:Nat) p e,G[i]?=some p→es.toList[i]?=some e→EntG w base p e
  born:∀ e∈es.toList,e.born<clk
  apart:es.toList.Pairwise Apart
def GRel (w:World)(M base:Nat)(G:Grp):Prop:=∃ es clk,GrpOk w M base G es clk
theorem GRel.new (w:World)(base:Nat)(h:w.heap.size<base):GRel (w.alloc (.map #[] 0)) w.heap.size base []:=
  ⟨#[],0,by show (w.heap.push _)[w.heap.size]?=_;simp,h,rfl,λi p e hp=>by simp at hp,λe he=>by simp at he,.nil⟩
theorem EntG.kept {w w':World}{base:Nat}{p:Dig×List Int}{e:MapEntry}{row:Option Nat}(h:EntG w base p e)(hg:w.grownBy w' row)(hne:e.val.ownBlock=none∨e.val.ownBlock≠row):EntG w' base p e:=
  ⟨h.1,h.2.1,h.2.2.kept hg hne⟩
theorem GRel.grow {w w':World}{M base:Nat}{G:Grp}(h:GRel w M base G)(hg:w.grownBy w' none):GRel w' M base G:=by
  obtain⟨es,clk,h⟩:=h
  have hM:M<w.heap.size:=(Array.getElem?_eq_some_iff.1 h.obj).1
  refine⟨es,clk,(hg.block M hM (by simp)).trans h.obj,h.low,h.len,λi p e hp he=>(h.ent i p e hp he).kept hg ?_,h.born,h.apart⟩
  cases e.val.ownBlock with
  | none=>exact .inl rfl
  | some g=>right;simp
theorem asking {w w0:World} {base:Nat} {d:Dig} (hd:d.length=32):∀ (G:Grp) (es:List MapEntry) (i:Nat),es.length=G.length→(∀ (i:Nat) p e,G[i]?=some p→es[i]?=some e→EntG w0 base p e) →
    ((Instr.findAsking 47 (digV d) es i).run Tryz.prog w = .ok none w∧getG G d=[]∧(∀ b,addG G d b=G++[(d,[b])])) ∨
    ∃ j e g,(Instr.findAsking 47 (digV d) es i).run Tryz.prog w = .ok (some (i+j,e.val)) w∧es[j]?=some e∧G[j]?=some (d,g)∧getG G d=g∧∀ b,addG G d b=G.set j (d,g++[b])
  | [],[],i,_,_ => .inl ⟨rfl,rfl,λ_=>rfl⟩
  | [],_::_,_,h,_=>absurd h (by simp)
  | _::_,[],_,h,_=>absurd h (by simp)
  | p :: G,e::es,i,h,he=>by
    obtain⟨h1,h2,_⟩:=he 0 p e rfl rfl
    unfold Instr.findAsking getG addG
    rw[h2,Sem.run_bind,equal_dig hd h1,Result.andThen_ok]
    by_cases hp:d=p.1
    · subst hp
      refine .inr ⟨0,e,p.2,?_,rfl,rfl,by rw[if_pos rfl],λb=>by rw[if_pos rfl];rfl⟩
      rw[decide_eq_true rfl,if_pos rfl];rfl
    · rw[decide_eq_false hp,if_neg (by decide)]
      have hp':¬ p.1=d:=λe=>hp e.symm
      rcases asking hd G es (i+1) (by simpa using h) (λj q x hq hx=>he (j+1) q x (by simpa using hq) (by simpa using hx)) with ⟨g1,g2,g3⟩ | ⟨j,x,g,g1,g2,g3,g4,g5⟩
      · exact .inl ⟨g1,by rw[if_neg hp'];exact g2,λb=>by rw[if_neg hp',g3];rfl⟩
      · refine .inr ⟨j+1,x,g,?_,by simpa using g2,by simpa using g3,by rw[if_neg hp'];exact g4,λb=>by rw[if_neg hp',g5];rfl⟩
        rw[show i+(j+1)=i+1+j by omega];exact g1
theorem find_dig {w w0:World} {base:Nat} {d:Dig} (hd:d.length=32) (G:Grp) (es:List MapEntry) (h:es.length=G.length) (he:∀ (i:Nat) p e,G[i]?=some p→es[i]?=some e→EntG w0 base p e) :
    ((Instr.findKey 47 (digV d) es).run Tryz.prog w = .ok none w∧getG G d=[]∧(∀ b,addG G d b=G++[(d,[b])])) ∨
    ∃ j e g,(Instr.findKey 47 (digV d) es).run Tryz.prog w = .ok (some (j,e.val)) w∧es[j]?=some e∧G[j]?=some (d,g)∧getG G d=g∧∀ b,addG G d b=G.set j (d,g++[b]):=by
  have hu:∃ u,Tryz.prog.underlying 47=some (.array 32 u):=by
    obtain⟨⟨u,hu,_⟩,_⟩:=(tyB_ok Tryz.prog (.arr 32 (.int .u8))).1 47 (by kernel_rfl)
    exact⟨u,hu⟩
  obtain⟨u,hu⟩:=hu
  have hx:=asking (w:=w) hd G es 0 h he
  cases es with
  | nil=>
    cases G with
    | nil=>
      refine .inl ⟨?_,rfl,λ_=>rfl⟩
      unfold Instr.findKey
      simp only[Sem.run_bind,run_underlying hu,Result.andThen_ok,Instr.findNow,Sem.run_pure]
    | cons _ _=>simp at h
  | cons e es=>
    have hf:(Instr.findKey 47 (digV d) (e::es)).run Tryz.prog w=(Instr.findAsking 47 (digV d) (e::es) 0).run Tryz.prog w:=by
      unfold Instr.findKey
      have hn:Instr.findNow (.array 32 u) (digV d) (e::es) 0=none:=by
        unfold Instr.findNow
        have:Instr.sameNow (.array 32 u) (digV d) e.key=none:=by unfold Instr.sameNow;rfl
        rw[this]
      simp only[Sem.run_bind,run_underlying hu,Result.andThen_ok,hn]
    rw[hf]
    simp only[Nat.zero_add]at hx
    exact hx
structure GAt (w:World)(M base:Nat)(G:Grp)(j st:Nat)(v:Value)(es:Array MapEntry)(clk:Nat):Prop extends GrpOk w M base G es clk where
  here:∃ e,es.toList[j]?=some e∧e.born=st∧e.val=v
theorem under129:Tryz.prog.underlying 129=some (.map 47 83):=by kernel_rfl
theorem zero83 (w:World):(zeroValue 83).run Tryz.prog w = .ok (.slice none 0 0) w:=by kernel_rfl
theorem mapEntry_grp {w:World} {M base:Nat} {G:Grp} {d:Dig} (h:GRel w M base G) (hd:d.length=32) :
    ∃ v st w1 G1 j g es clk,(Instr.mapEntry 129 (.map (some M)) (digV d)).run Tryz.prog w = .ok (.tuple #[v,goInt (st:Nat)]) w1∧w.grownBy w1 (some M)∧w1.heap.size=w.heap.size∧GAt w1 M base G1 j st v es clk∧G1[j]?=some (d,g)∧(∀ b,G1.set j (d,g++[b])=addG G d b) ∧
      w1.ownsRow base 22 1 v g.length (g.map (Value.int .u64))∧g=getG G d:=by
  obtain⟨es,clk,h⟩:=h
  have hM:M<w.heap.size:=(Array.getElem?_eq_some_iff.1 h.obj).1
  have own_ne:∀ {base:Nat} {v:Value} {n:Nat} {xs:List Value},M<base→w.ownsRow base 22 1 v n xs→v.ownBlock=none∨v.ownBlock≠some M:=fun {base v n xs} hb ho=>by
    cases hv:v.ownBlock with
    | none=>exact .inl rfl
    | some g=>
      refine .inr λe => ?_
      injection e with e
      have:=(ho.lt g hv).1
      omega
  have grown:∀ (es':Array MapEntry) (clk':Nat),w.grownBy { w with heap:=w.heap.setIfInBounds M (.map es' clk') } (some M):=λes' clk'=>by
    refine⟨rfl,rfl,rfl,by simp,λk hk hne => ?_⟩
    show (w.heap.setIfInBounds M _)[k]?=_
    rw[Array.getElem?_setIfInBounds,if_neg (λe=>hne (by rw[e]))]
  have obj':∀ (es':Array MapEntry) (clk':Nat),({ w with heap:=w.heap.setIfInBounds M (.map es' clk') }:World).heap[M]?=some (.map es' clk'):=λes' clk'=>by
    show (w.heap.setIfInBounds M _)[M]?=_
    rw[Array.getElem?_setIfInBounds,if_pos rfl,if_pos hM]
  rcases find_dig (w:=w) hd G es.toList h.len h.ent with ⟨g1,g2,g3⟩ | ⟨j,e,g,g1,g2,g3,g4,g5⟩
  · refine⟨.slice none 0 0,clk,{ w with heap:=w.heap.setIfInBounds M (.map (es.push { key:=digV d,val := .slice none 0 0,born:=clk }) (clk+1)) },G++[(d,[])],G.length,[],es.push { key:=digV d,val := .slice none 0 0,born:=clk },clk+1,?_,grown _ _,by simp,?_,by simp,λb => ?_,World.ownsRow_nil _ _ _ _,g2.symm⟩
    · unfold Instr.mapEntry
      simp only[Sem.run_bind,run_underlying under129,Result.andThen_ok,run_getMap h.obj,ckey hd,g1,zero83,run_setMap _ h.obj,Sem.run_pure]
    · refine⟨⟨obj' _ _,h.low,by simp[h.len],λi p e hp he => ?_,λe he => ?_,?_⟩,⟨_,by rw[Array.toList_push,List.getElem?_append_right (by rw[h.len];omega),h.len,Nat.sub_self];rfl,rfl,rfl⟩⟩
      · rw[Array.toList_push]at he
        by_cases hi:i<G.length
        · rw[List.getElem?_append_left hi]at hp
          rw[List.getElem?_append_left (by rw[h.len];exact hi)]at he
          have:=h.ent i p e hp he
          exact this.kept (grown _ _) (own_ne h.low this.2.2)
        · rw[List.getElem?_append_right (by omega)]at hp
          rw[List.getElem?_append_right (by rw[h.len];omega),h.len]at he
          cases hk:i-G.length with
          | zero=>
            rw[hk]at hp he
            injection hp with hp;injection he with he
            subst hp;subst he
            exact⟨hd,rfl,World.ownsRow_nil _ _ _ _⟩
          | succ k=>rw[hk]at hp;simp at hp
      · rw[Array.toList_push]at he
        rcases List.mem_append.1 he with he | he
        · have:=h.born e he;omega
        · rw[show e=_ by simpa using he];exact Nat.lt_succ_self _
      · rw[Array.toList_push,List.pairwise_append]
        refine⟨h.apart,List.pairwise_singleton _ _,λx hx y hy => ?_⟩
        rw[show y=_ by simpa using hy]
        have:=h.born x hx
        refine⟨by show x.born≠clk;omega,?_⟩
        cases x.val.ownBlock with
        | none=>exact .inl rfl
        | some g=>right;simp[Value.ownBlock]
    · rw[g3,List.set_append_right _ _ (Nat.le_refl _),Nat.sub_self];rfl
  · have hea:es[j]?=some e:=by rw[← Array.getElem?_toList];exact g2
    obtain⟨k1,k2,k3⟩:=h.ent j _ e g3 g2
    have hmod:∀ {f:MapEntry→MapEntry},f e=e→(es.modify j f)=es:=fun {f} hf=>by
      apply Array.ext_getElem?
      intro i
      rw[Array.getElem?_modify]
      split
      · next hij=>subst hij;rw[hea,Option.map_some,hf]
      · rfl
    refine⟨e.val,e.born,{ w with heap:=w.heap.setIfInBounds M (.map es clk) },G,j,g,es,clk,?_,grown _ _,by simp,?_,g3,λb=>(g5 b).symm,k3.kept (grown _ _) (own_ne h.low k3),g4.symm⟩
    · have hst:(Instr.keyThatStays ((es[j]?.map λx=>x.key).getD (digV d)) (digV d)).run Tryz.prog w = .ok (digV d) w:=by
        unfold Instr.keyThatStays
        rw[hea,Option.map_some,Option.getD_some,k2,same_dig,if_pos rfl];rfl
      unfold Instr.mapEntry
      simp only[Sem.run_bind,run_underlying under129,Result.andThen_ok,run_getMap h.obj,ckey hd,g1,hst,run_setMap _ h.obj,Sem.run_pure]
      rw[hmod (f:=λe=>{ e with key:=digV d }) (by rw[← k2]),hea]
      rfl
    · refine⟨⟨obj' _ _,h.low,h.len,λi p e hp he => ?_,h.born,h.apart⟩,⟨e,g2,rfl,rfl⟩⟩
      have:=h.ent i p e hp he
      exact this.kept (grown _ _) (own_ne h.low this.2.2)
theorem entryStore_grp {w w2:World} {M base:Nat} {G:Grp} {j st:Nat} {v v':Value} {es:Array MapEntry} {clk:Nat} {d:Dig} {g g':List Int} (h:GAt w M base G j st v es clk) (hj:G[j]?=some (d,g)) (hg:w.grownBy w2 v.ownBlock)
    (ho:w2.ownsRow base 22 1 v' g'.length (g'.map (Value.int .u64))) (hb:v'.ownBlock=v.ownBlock∨v'.ownBlock=some w.heap.size) :
    ∃ w3,(Instr.entryStore 129 (.map (some M)) (goInt (st:Nat)) v').run Tryz.prog w2 = .ok () w3∧GRel w3 M base (G.set j (d,g'))∧w2.grownBy w3 (some M):=by
  have hM:M<w.heap.size:=(Array.getElem?_eq_some_iff.1 h.obj).1
  obtain⟨e,he,hbn,hv⟩:=h.here
  have hvM:v.ownBlock≠some M:=λhv2=>by
    obtain⟨_,_,k3⟩:=h.ent j _ e hj he
    have:=(k3.lt M (by rw[hv];exact hv2)).1
    have:=h.low
    omega
  have hobj2:w2.heap[M]?=some (.map es clk):=(hg.block M hM (λe=>hvM e.symm)).trans h.obj
  have hjl:j<es.size:=by
    have:=(List.getElem?_eq_some_iff.1 he).1
    rwa [Array.length_toList]at this
  have hea:es[j]?=some e:=by rw[← Array.getElem?_toList];exact he
  have hej:es[j]=e:=by rw[Array.getElem?_eq_getElem hjl]at hea;injection hea
  have other:∀ i x,es.toList[i]?=some x→i≠j→Apart x e:=λi x hx hij=>by
    have hp:=List.pairwise_iff_getElem.1 h.apart
    obtain⟨hi,rfl⟩:=List.getElem?_eq_some_iff.1 hx
    obtain⟨hj2,hje⟩:=List.getElem?_eq_some_iff.1 he
    rcases Nat.lt_or_ge i j with hlt | hge
    · have:=hp i j hi hj2 hlt;rwa [hje]at this
    · have:=hp j i hj2 hi (by omega);rw[hje]at this;exact this.symm
  have hidx:es.findIdx? (λx=>(x.born:Int)==(st:Int))=some j:=by
    rw[Array.findIdx?_eq_some_iff_getElem]
    refine⟨hjl,by rw[hej,hbn];exact beq_self_eq_true _,λi hi => ?_⟩
    have hil:i<es.size:=by omega
    have:=(other i es[i] (by rw[Array.getElem?_toList,Array.getElem?_eq_getElem hil]) (by omega)).1
    rw[hbn]at this
    simp only[beq_iff_eq]
    omega
  have grown:∀ (es':Array MapEntry) (clk':Nat),w2.grownBy { w2 with heap:=w2.heap.setIfInBounds M (.map es' clk') } (some M):=λes' clk'=>by
    refine⟨rfl,rfl,rfl,by simp,λk hk hne => ?_⟩
    show (w2.heap.setIfInBounds M _)[k]?=_
    rw[Array.getElem?_setIfInBounds,if_neg (λe=>hne (by rw[e]))]
  have hM2:M<w2.heap.size:=(Array.getElem?_eq_some_iff.1 hobj2).1
  have own_ne:∀ {v:Value} {n:Nat} {xs:List Value},w2.ownsRow base 22 1 v n xs→v.ownBlock=none∨v.ownBlock≠some M:=fun {v n xs} ho=>by
    cases hv:v.ownBlock with
    | none=>exact .inl rfl
    | some g=>
      refine .inr λe => ?_
      injection e with e
      have:=(ho.lt g hv).1
      have:=h.low
      omega
  have htl:(es.modify j λe=>{ e with val:=v' }).toList=es.toList.set j { e with val:=v' }:=by
    apply List.ext_getElem?
    intro i
    rw[Array.getElem?_toList,Array.getElem?_modify,List.getElem?_set,Array.length_toList]
    by_cases hij:j=i
    · subst hij;rw[if_pos rfl,if_pos rfl,if_pos hjl,hea];rfl
    · rw[if_neg hij,if_neg hij,Array.getElem?_toList]
  have newApart:∀ i x,es.toList[i]?=some x→i≠j→Apart x { e with val:=v' }:=λi x hx hij=>by
    obtain⟨a1,a2⟩:=other i x hx hij
    refine⟨a1,?_⟩
    show x.val.ownBlock=none∨x.val.ownBlock≠v'.ownBlock
    rcases hb with hb | hb
    · rw[hb,← hv];exact a2
    · rw[hb]
      cases hxo:x.val.ownBlock with
      | none=>exact .inl rfl
      | some q=>
        right
        obtain⟨hi,_⟩:=List.getElem?_eq_some_iff.1 hx
        have hiG:i<G.length:=by rw[← h.len];exact hi
        obtain⟨_,_,k3⟩:=h.ent i _ x (List.getElem?_eq_getElem hiG) hx
        have:=(k3.lt q hxo).2
        intro e;injection e with e;omega
  refine⟨{ w2 with heap:=w2.heap.setIfInBounds M (.map (es.modify j λe=>{ e with val:=v' }) clk) },?_,⟨es.modify j λe=>{ e with val:=v' },clk,?_,h.low,by rw[htl,List.length_set,List.length_set];exact h.len,λi p x hp hx => ?_,λx hx => ?_,?_⟩,grown _ _⟩
  · have hidx':es.findIdx? (λx=>(x.born:Int)==((st:Nat):Int))=some j:=hidx
    unfold Instr.entryStore
    have hai:∀ w:World,(asInt (goInt (st:Nat))).run Tryz.prog w = .ok ((st:Nat):Int) w:=λw=>rfl
    simp only[Sem.run_bind,Result.andThen_ok,run_getMap hobj2,hai,hidx',run_setMap _ hobj2]
  · show (w2.heap.setIfInBounds M _)[M]?=_
    rw[Array.getElem?_setIfInBounds,if_pos rfl,if_pos hM2]
  · rw[htl]at hx
    by_cases hij:i=j
    · subst hij
      rw[List.getElem?_set_self (by rw[Array.length_toList];exact hjl)]at hx
      rw[List.getElem?_set_self (List.getElem?_eq_some_iff.1 hj).1]at hp
      injection hx with hx;injection hp with hp
      subst hx;subst hp
      obtain⟨k1,k2,_⟩:=h.ent i _ e hj he
      exact⟨k1,k2,ho.kept (grown _ _) (own_ne ho)⟩
    · rw[List.getElem?_set_ne (λe=>hij e.symm)]at hx hp
      have k:=h.ent i p x hp hx
      have k':EntG w2 base p x:=k.kept hg (by rw[← hv];exact (other i x hx hij).2)
      exact k'.kept (grown _ _) (own_ne k'.2.2)
  · rw[htl]at hx
    rcases List.mem_or_eq_of_mem_set hx with hx | hx
    · exact h.born x hx
    · rw[hx];exact h.born e (List.mem_of_getElem? he)
  · rw[htl,List.pairwise_iff_getElem]
    intro i k hi hk hik
    have hil:i<es.toList.length:=by rw[List.length_set]at hi;exact hi
    have hkl:k<es.toList.length:=by rw[List.length_set]at hk;exact hk
    rw[List.getElem_set,List.getElem_set]
    by_cases h1:j=i
    · rw[if_pos h1,if_neg (by omega)]
      exact (newApart k _ (List.getElem?_eq_getElem hkl) (by omega)).symm
    · rw[if_neg h1]
      by_cases h2:j=k
      · rw[if_pos h2]
        exact newApart i _ (List.getElem?_eq_getElem hil) (by omega)
      · rw[if_neg h2]
        exact List.pairwise_iff_getElem.1 h.apart i k hil hkl hik
theorem lookup_grp {w:World}{M base:Nat}{G:Grp}{d:Dig}(h:GRel w M base G)(hd:d.length=32) :
    ∃ v,(Instr.lookup 129 (.map (some M)) (digV d) false).run Tryz.prog w = .ok v w∧w.ownsRow base 22 1 v (getG G d).length ((getG G d).map (Value.int .u64)):=by
  obtain⟨es,clk,h⟩:=h
  rcases find_dig (w:=w) hd G es.toList h.len h.ent with ⟨g1,g2,g3⟩ | ⟨j,e,g,g1,g2,g3,g4,g5⟩
  · refine⟨.slice none 0 0,?_,by rw[g2];exact World.ownsRow_nil _ _ _ _⟩
    unfold Instr.lookup
    simp only[Sem.run_bind,run_underlying under129,Result.andThen_ok,run_getMap h.obj,ckey hd,g1,zero83,Sem.run_pure]
    rfl
  · refine⟨e.val,?_,by rw[g4];exact (h.ent j _ e g3 g2).2.2⟩
    unfold Instr.lookup
    simp only[Sem.run_bind,run_underlying under129,Result.andThen_ok,run_getMap h.obj,ckey hd,g1,Sem.run_pure]
    rfl
end Go.Proofs.YtemhlkdingkjnaaGreatDoor
namespace Go.Proofs.YtemhlkdingkjnaaGreatDoor
open Go Go.Va Go.Proofs Go.RowKit
def useCells (u:D_count_Use):List Value := .int .u64 u.1 :: .int .i64 u.2.1 :: .int .i64 u.2.2.1::u.2.2.2.1.map (Value.int .u8)
theorem rd_use {S:Nat→Prop}{w:World}{u:D_count_Use}{cs:List Value}(h:Rd S w T_count_Use u cs):cs=useCells u∧u.2.2.2.1.length=32:=by
  obtain⟨c1,c2,e,h1,d1,d2,e2,h2,f1,f2,e3,h3,g1,g2,e4,h4,h5⟩:=h
  have h1:c1=[.int .u64 u.1]:=h1
  have h2:d1=[.int .i64 u.2.1]:=h2
  have h3:f1=[.int .i64 u.2.2.1]:=h3
  have h5:g2=[]:=h5
  obtain⟨k1,k2⟩:=rd_dig h4
  refine⟨?_,k1⟩
  rw[e,e2,e3,e4,h1,h2,h3,h5,k2,List.append_nil]
  rfl
theorem useCells_len {u:D_count_Use}(h:u.2.2.2.1.length=32):(useCells u).length=35:=by
  unfold useCells;simp[h]
theorem uses_calls {n:Nat}{s:D_api_State}{U:List D_count_Use}(h:F_count_Uses.f n s=some (U,())){w:World}{S:Nat→Prop}(hS:∀ b,S b→b<w.heap.size)
    (hgl:(∀ p∈Gl.tab,S p.1∧∃ cs,p.2 cs∧At w ⟨p.1,0,none⟩ cs)∧∀ p∈Gl.ex,S p.1∧∃ o,w.heap[p.1]?=some o∧p.2 o) {c:Array Value} (hr:Rd S w T_api_State s c.toList) :
    Calls Tryz.prog 22 #[.agg c] w λen w'=>Grow w w'∧∃ sl cap,en = .returned (.slice sl U.length cap)∧(U=[]∨∃ bk o,sl=some ⟨bk,o,none⟩∧(S bk∨w.heap.size≤bk)∧bk<w'.heap.size ∧
      ∀ (k:Nat) u,U[k]?=some u→u.2.2.2.1.length=32∧At w' ⟨bk,o+k*35,none⟩ (useCells u)):=by
  let E:Env:=⟨λ_=>none,λ_=>none,λ_=>False,S⟩
  have hh:HREL (λb=>b<w.heap.size) S E (heapOf (inSig 0 F_count_Uses.ia) (s,())) w:=by
    have e:heapOf (inSig 0 F_count_Uses.ia) (s,())=λ_ => .un:=rfl
    rw[e]
    exact⟨λr=>⟨id,rfl⟩,λr r' b h=>by simp[Ent.isLive]at h,λr b h=>by simp[Ent.isLive]at h,hS,λb h=>h,λb hb => .inl hb,hgl⟩
  have hc:C E w (listAV (argAVs 0 F_count_Uses.ia (s,()))) [.agg c]:=by
    refine⟨.agg c,[],rfl,?_,rfl⟩
    exact (V_agg (E:=E) (by rfl)).2 ⟨c,rfl,hr⟩
  have:=(F_count_Uses.ok n).run (s,()) _ h _ _ E w [.agg c] hh hc
  refine this.mono ?_
  rintro en w' ⟨E',x,rfl,g1,g2,g3⟩
  refine⟨⟨g2.keepP.os,g2.keepP.tape,g2.keepP.output,g2.keepP.size,λb hb=>g2.keepP.block b hb hb⟩,?_⟩
  have g3:V E' w' (.data (.slice T_count_Use) U) x:=g3
  obtain⟨a,cap,rfl,hcap,hd⟩:=V_slice.1 g3
  refine⟨a,cap,rfl,?_⟩
  rcases hd with hd | ⟨ad,rfl,hSd,cells,k1,k2⟩
  · exact .inl hd
  · obtain⟨ab,ao,asp⟩:=ad
    have has:asp=none:=k2.1
    subst has
    refine .inr ⟨ab,ao,rfl,?_,g1.sIn _ hSd,λk u hk => ?_⟩
    · rcases g1.s0 _ hSd with q | q
      · exact .inl q
      · exact .inr (Nat.le_of_not_lt q)
    · obtain⟨hk1,hk2⟩:=List.getElem?_eq_some_iff.1 hk
      obtain⟨c1,c',c2,m1,m2,m3,_,_⟩:=RdL.get (λx c=>Rd.length E'.S w' T_count_Use x c) U cells k1 k hk1
      rw[hk2]at m3
      obtain⟨r1,r2⟩:=rd_use m3
      rw[m1]at k2
      have hp:=At.part k2
      rw[m2]at hp
      rw[r1]at hp
      exact⟨r2,hp⟩
def grpOf (l:List D_count_Use):Grp:=l.foldl (λG u=>addG G u.2.2.2.1 u.1) []
section
variable {ops:Array Oper} {rest:List Oper} {o:Oper} {a:Act} {Q:Exit→Act→World→Prop}
theorem wpList_mapEntry_grp {w:World}(hg:o.guard=none)(m x:Operand)(hop:o.op=Op.mapEntry 129 m x){M base:Nat}{G:Grp}{d:Dig}(hm:a.eval m = .map (some M))(hx:a.eval x=digV d)(h:GRel w M base G)(hd:d.length=32)
    (hK:∀ v st w1 G1 j g es clk,w.grownBy w1 (some M)→w1.heap.size=w.heap.size→GAt w1 M base G1 j st v es clk→G1[j]?=some (d,g)→(∀ b,G1.set j (d,g++[b])=addG G d b)→w1.ownsRow base 22 1 v g.length (g.map (Value.int .u64))→g=getG G d →
      wpList Tryz.prog ops Q rest (a.put o.dst (.tuple #[v,goInt (st:Nat)])) w1):wpList Tryz.prog ops Q (o::rest) a w:=by
  refine wpList_plain hg λK' hK' => ?_
  obtain⟨v,st,w1,G1,j,g,es,clk,hrun,h1,h2,h3,h4,h5,h6,h7⟩:=mapEntry_grp h hd
  unfold Oper.wp
  simp[execOp,hop,hm,hx,hrun,Result.andThen]
  exact hK' _ _ (hK v st w1 G1 j g es clk h1 h2 h3 h4 h5 h6 h7)
end
end Go.Proofs.YtemhlkdingkjnaaGreatDoor
namespace Go.Proofs.YtemhlkdingkjnaaGreatDoor
open Go Go.Va Go.Proofs Go.RowKit
theorem row_cells {w:World}{a:Addr}{C:Array Value}{N:Nat}(hl:C.size=N)(h:At w a C.toList):(loadCellsFrom a 0 N #[]).run Tryz.prog w = .ok C w:=by
  have:=run_loadCells_at (P:=Tryz.prog) h
  rw[Array.toArray_toList,Array.length_toList,hl]at this
  exact this
theorem row_copy (wr:World){T N:Nat}{Z C:Array Value}(hz:Z.size=N)(hl:C.size=N)(h1:∀ v∈C.toList,v.oneCell'=true):∃ (w2:World),
    (storeCells ⟨wr.heap.size,0,none⟩ C.toList).run Tryz.prog (wr.alloc (.cells Z T)) = .ok () w2 ∧
    Grow wr w2∧w2.heap.size=wr.heap.size+1∧w2.heap[wr.heap.size]?=some (.cells C T (0,0)):=by
  have hzl:Z.toList.length=N:=by simpa using hz
  have hll:C.toList.length=N:=by simpa using hl
  have hb0:(wr.alloc (.cells Z T)).heap[wr.heap.size]?=some (.cells Z.toList.toArray T (0,0)):=by
    rw[Array.toArray_toList];exact heap_alloc_new wr _
  obtain⟨w2,g1,g2,g3⟩:=run_storeCells (P:=Tryz.prog) C.toList 0 (wr.alloc (.cells Z T)) wr.heap.size 0 Z.toList T (0,0) hb0 (.inl rfl) (by rw[hzl,hll];omega) h1
  have hsz:(wr.alloc (.cells Z T)).heap.size=wr.heap.size+1:=by show (wr.heap.push _).size=_;simp
  have g4:w2.heap[wr.heap.size]?=some (.cells C T (0,0)):=by
    rw[g3,hll,Nat.zero_add,Nat.zero_add,List.take_zero,List.nil_append,List.drop_of_length_le (by omega),List.append_nil,Array.toArray_toList]
  exact⟨w2,g1,⟨g2.os,g2.tape,g2.output,by rw[g2.size,hsz];omega,λb hb=>(g2.block b (by omega)).trans (heap_alloc_old wr _ hb)⟩,by rw[g2.size,hsz],g4⟩
theorem grownOf {a b:World}(h:Grow a b)(row:Option Nat):a.grownBy b row:=⟨h.os,h.tape,h.output,h.size,λk hk _=>h.block k hk⟩
theorem ne_nil_of {α:Type}{l:List α}{k:Nat}(h:k<l.length):¬ l=[]:=λe=>by rw[e]at h;exact absurd h (Nat.not_lt_zero _)
theorem dec_lt {k m:Nat}(h:k<m):decide ((k:Int)<(m:Int))=true:=decide_eq_true (Int.ofNat_lt.2 h)
theorem dec_nlt {k m:Nat}(h:¬ k<m):decide ((k:Int)<(m:Int))=false:=decide_eq_false (λhh=>h (Int.ofNat_lt.1 hh))
theorem meas_up {k m:Nat}(h:k<m):m-(intOf (Value.int .i64 ((k+1:Nat):Int))).toNat<m-(intOf (Value.int .i64 (k:Int))).toNat:=by
  show m-((k+1:Nat):Int).toNat<m-(k:Int).toNat
  rw[Int.toNat_natCast,Int.toNat_natCast];omega
theorem wrap_up {k m:Nat}(h:k<m)(hm:m≤140737488355328):wrap64 ((k:Int)+1)=((k+1:Nat):Int):=by
  rw[show (k:Int)+1=((k+1:Nat):Int) by omega]
  exact IntWalk.wrap64_in _ ⟨by omega,by omega⟩
theorem len_lt {α:Type}{l:List α}{k:Nat}(h:k<l.length):∃ a,l[k]?=some a:=⟨l[k],List.getElem?_eq_getElem h⟩
theorem grp_take {U:List D_count_Use}{k:Nat}{u:D_count_Use}(h:U[k]?=some u):grpOf (U.take (k+1))=addG (grpOf (U.take k)) u.2.2.2.1 u.1:=by
  obtain⟨h5,h6⟩:=List.getElem?_eq_some_iff.1 h
  rw[List.take_succ_eq_append_getElem h5,h6]
  unfold grpOf
  rw[List.foldl_append];rfl
theorem tyUse:TyIs Tryz.prog T_count_Use 80:=(tyB_ok Tryz.prog T_count_Use).1 80 (by kernel_rfl)
theorem tyDig:TyIs Tryz.prog (.arr 32 (.int .u8)) 47:=(tyB_ok Tryz.prog (.arr 32 (.int .u8))).1 47 (by kernel_rfl)
structure AggT (T N:Nat)(Z:Array Value):Prop where
  agg:∀ w,(isAgg T).run Tryz.prog w = .ok true w
  size:∀ w,(Go.sizeOf T).run Tryz.prog w = .ok N w
  zero:∀ w,(zeroValue T).run Tryz.prog w = .ok (.agg Z) w
  z:Z.size=N
theorem useTy:∃ T N Z,T=80∧N=35∧AggT T N Z:=⟨80,35,_,rfl,rfl,λw=>Go.Va.run_isAgg tyUse,λw=>Go.Va.run_sizeOf tyUse,Tryz.zeroValue80,rfl⟩
theorem digTy:∃ T N Z,T=47∧N=32∧AggT T N Z:=⟨47,32,_,rfl,rfl,λw=>Go.Va.run_isAgg tyDig,λw=>Go.Va.run_sizeOf tyDig,Tryz.zeroValue47,rfl⟩
theorem info22:(Tryz.prog.info? 22).map (λi=>(i.zero,i.size,i.bytes))=some (some (.int .u64 0),1,8):=by kernel_rfl
theorem at_block {w w':World}{a:Addr}{cs:List Value}(h:w'.heap[a.block]?=w.heap[a.block]?)(k:At w a cs):At w' a cs:=by
  unfold At at k ⊢
  refine⟨k.1,λj hj => ?_⟩
  have:=k.2 j hj
  unfold World.cell? at this ⊢
  simpa[h]using this
theorem use_one (u:D_count_Use):∀ v∈(useCells u).toArray.toList,v.oneCell'=true:=by
  intro v hv
  have hv:v∈useCells u:=by simpa using hv
  unfold useCells at hv
  simp only[List.mem_cons,List.mem_map]at hv
  rcases hv with rfl | rfl | rfl | ⟨x,_,rfl⟩<;>rfl
theorem belowM {a b c:World}{M:Nat}(h:Below a.heap.size a b)(g:b.grownBy c (some M))(hM:a.heap.size≤M):Below a.heap.size a c:=
  ⟨g.os.trans h.os,g.tape.trans h.tape,g.output.trans h.output,Nat.le_trans h.size g.size,λx hx=>(g.block x (Nat.lt_of_lt_of_le hx h.size) (by simp;omega)).trans (h.block x hx)⟩
theorem new_cell {w3 w4:World}{M b:Nat}{x:Value}(hb:w3.heap.size=b)(h:(w3.alloc (.cells #[x] 22)).grownBy w4 (some M))(hM:M<b):∀ j u,[x][j]?=some u→w4.cell? ((⟨b,0,none⟩:Addr).add j)=some u:=λj u hj=>by
  subst hb
  refine h.cell (cell_one_new _ _ _ j u hj) ?_
  have:((⟨w3.heap.size,0,none⟩:Addr).add j).block=w3.heap.size:=by unfold Addr.add;split<;>rfl
  rw[this]
  simp;omega
theorem one_int {x:Int}:∀ u∈[Value.int .u64 x],u.oneCell'=true:=λu hu=>by
  rw[List.mem_singleton]at hu
  subst hu;rfl
theorem alloc_le (w:World)(o:Obj):w.heap.size≤(w.alloc o).heap.size:=by simp
theorem len_ok {g h:List Int}(e:g=h)(hl:h.length≤16777216):g.length+1≤maxLen∧(g.length+1)*8≤140737488355328:=by
  subst e
  unfold maxLen
  constructor<;>omega
theorem own_app {w:World}{base:Nat}{v:Value}{g:List Int}{x:Int}(h:w.ownsRow base 22 1 v (g.length+1) (g.map (Value.int .u64)++[.int .u64 x])):w.ownsRow base 22 1 v (g++[x]).length ((g++[x]).map (Value.int .u64)):=by simpa using h
theorem addG_len (G:Grp)(d e:Dig)(b:Int):(getG (addG G d b) e).length≤(getG G e).length+1:=by
  induction G with
  | nil=>
    unfold addG getG
    split
    · simp
    · unfold getG;simp
  | cons p l ih=>
    unfold addG
    by_cases hp:p.1=d
    · rw[if_pos hp]
      unfold getG
      by_cases he:p.1=e
      · rw[if_pos he,if_pos he,List.length_append];simp
      · rw[if_neg he,if_neg he];omega
    · rw[if_neg hp]
      unfold getG
      by_cases he:p.1=e
      · rw[if_pos he,if_pos he];omega
      · rw[if_neg he,if_neg he];exact ih
theorem getG_len (l:List D_count_Use)(d:Dig):(getG (grpOf l) d).length≤l.length:=by
  have:∀ (l:List D_count_Use) (G:Grp),(getG (l.foldl (λG u=>addG G u.2.2.2.1 u.1) G) d).length≤(getG G d).length+l.length:=by
    intro l
    induction l with
    | nil=>intro G;simp
    | cons u l ih=>
      intro G
      have h1:=ih (addG G u.2.2.2.1 u.1)
      have h2:=addG_len G u.2.2.2.1 d u.1
      rw[List.foldl_cons,List.length_cons]
      omega
  have:=this l []
  simpa[getG,grpOf]using this
theorem grp_le {U:List D_count_Use}(hl:U.length≤16777216)(k:Nat)(d:Dig):(getG (grpOf (U.take k)) d).length≤16777216:=by
  have:=getG_len (U.take k) d
  rw[List.length_take]at this
  omega
theorem grown_through {a b c:World}{M:Nat}{r:Option Nat}(h:a.grownBy b (some M))(g:b.grownBy c r)(hr:∀ k,r=some k→a.heap.size≤k):a.grownBy c (some M):=
  ⟨g.os.trans h.os,g.tape.trans h.tape,g.output.trans h.output,Nat.le_trans h.size g.size,λk hk hne=>(g.block k (Nat.lt_of_lt_of_le hk h.size) (λe=>by have:=hr k e.symm;omega)).trans (h.block k hk hne)⟩
theorem hidU {p:Prop}(h:p):Hid p:=h
theorem grp_next {w:World}{M base k:Nat}{U:List D_count_Use}{u:D_count_Use}{G1:Grp}{j:Nat}{g:List Int}(hu:Hid (U[k]?=some u))(h:GRel w M base (G1.set j (u.2.2.2.1,g++[u.1])))(e:∀ b,G1.set j (u.2.2.2.1,g++[b])=addG (grpOf (U.take k)) u.2.2.2.1 b):Hid (GRel w M base (grpOf (U.take (k+1)))):=hidU (by
  rw[grp_take hu.out,← e];exact h)
theorem grown_all {a b c d e f:World}{M:Nat}{v:Value}{n:Nat}{xs:List Value}(h1:Hid (a.grownBy b (some M)))(h2:b.grownBy c (some M))(h3:c.grownBy d (some M))(h4:d.grownBy e v.ownBlock)(ho:d.ownsRow a.heap.size 22 1 v n xs)(h5:e.grownBy f (some M)):Hid (a.grownBy f (some M)):=
  hidU ((grown_through ((h1.out.trans h2).trans h3) h4 (λk hk=>(ho.lt k hk).1)).trans h5)
theorem arr4 {c:Array Value}(h:c.size=4):∃ c0 c1 c2 c3,c = #[c0,c1,c2,c3]:=by
  obtain⟨l⟩:=c
  match l,h with
  | [a,b,d,e],_=>exact⟨a,b,d,e,rfl⟩
set_option maxRecDepth 100000 in
theorem index_walk {n:Nat} {s:D_api_State} {U:List D_count_Use} (hu:F_count_Uses.f n s=some (U,())) (hl:U.length≤16777216) {w:World} {S:Nat→Prop} (hS:∀ b,S b→b<w.heap.size)
    (hgl:(∀ p∈Gl.tab,S p.1∧∃ cs,p.2 cs∧At w ⟨p.1,0,none⟩ cs)∧∀ p∈Gl.ex,S p.1∧∃ o,w.heap[p.1]?=some o∧p.2 o) {c:Array Value} (hr:Rd S w T_api_State s c.toList) :
    Calls Tryz.prog 61 #[.agg c] w λe w'=>∃ M base,e = .returned (.map (some M))∧w.heap.size<base∧base≤w'.heap.size∧Below w.heap.size w w'∧GRel w' M base (grpOf U):=by
  have mixed:=mixed
  have hmm:=@run_makeMap Tryz.prog
  obtain⟨T,N,Z,hT,hN,AT⟩:=useTy
  obtain⟨K,N2,Z2,hK,hN2,AK⟩:=digTy
  have e1:Op.load 80 (Operand.tmp 12)=Op.load T (Operand.tmp 12):=by rw[hT]
  have e2:Op.alloc 80=Op.alloc T:=by rw[hT]
  have e3:Op.store 80 (Operand.tmp 5) (Operand.tmp 13)=Op.store T (Operand.tmp 5) (Operand.tmp 13):=by rw[hT]
  have e4:Op.load 47 (Operand.tmp 15)=Op.load K (Operand.tmp 15):=by rw[hK]
  have HN:=hidU hN
  have HN2:=hidU hN2
  clear hT hK hN hN2
  have aggT:=AT.agg
  have sizeT:=AT.size
  have zeroT:=AT.zero
  have aggK:=AK.agg
  have sizeK:=AK.size
  have zeroK:=AK.zero
  have hc4:c.size=4:=by rw[← Array.length_toList];exact Rd.length _ _ _ _ _ hr
  obtain⟨c0,c1,c2,c3,rfl⟩:=arr4 hc4
  have Hr:=hidU hr
  have Hgl:=hidU hgl
  have HS:=hidU hS
  clear hr hgl hS hc4
  obtain⟨i0,hi,hz0,hz1,hz2⟩:=info_parts info22
  go_enter Tryz.func61,Tryz.ntmps61
  go_wp2_with fail
  have hg1:Grow w ((w.alloc (.cells #[c0,c1,c2,c3] 25)).alloc (.map #[] 0)):=(Grow.alloc w _).trans (Grow.alloc _ _)
  refine (uses_calls hu (S:=S) (λb hb=>Nat.lt_of_lt_of_le (HS.out b hb) hg1.size) ⟨λp hp => ?_,λp hp => ?_⟩ (Rd.keep (hg1.keep S) (λ_ h=>h) _ _ _ Hr.out)).mono ?_
  · obtain⟨q1,cs,q2,q3⟩:=Hgl.out.1 p hp
    exact⟨q1,cs,q2,(hg1.keep S).at q1 q3⟩
  · obtain⟨q1,ob,q2,q3⟩:=Hgl.out.2 p hp
    exact⟨q1,ob,(hg1.block p.1 (HS.out _ q1)).trans q2,q3⟩
  rintro en w2 ⟨hg2,sl,cap,rfl,hsl⟩
  have hsz1:((w.alloc (.cells #[c0,c1,c2,c3] 25)).alloc (.map #[] 0)).heap.size=w.heap.size+2:=by simp
  have hM2:w.heap.size+1<w2.heap.size:=by have:=hg2.size;omega
  have HG0:Hid (GRel w2 (w.heap.size+1) w2.heap.size (grpOf (U.take 0))):=hidU (by
    have h:=GRel.new (w.alloc (.cells #[c0,c1,c2,c3] 25)) w2.heap.size (by simp;omega)
    rw[show (w.alloc (.cells #[c0,c1,c2,c3] 25)).heap.size=w.heap.size+1 by simp]at h
    exact h.grow (grownOf hg2 none))
  have Hsl:Hid (U=[]∨∃ bk o,sl=some ⟨bk,o,none⟩∧bk<w2.heap.size∧bk≠w.heap.size+1∧∀ (k:Nat) u,U[k]?=some u→u.2.2.2.1.length=32∧At w2 ⟨bk,o+k*35,none⟩ (useCells u)):=hidU (by
    rcases hsl with h | ⟨bk,o,q1,q2,q3,q4⟩
    · exact .inl h
    · refine .inr ⟨bk,o,q1,q3,?_,q4⟩
      rcases q2 with q2 | q2
      · have:=HS.out bk q2;omega
      · omega)
  have HB2:Hid (Below w.heap.size w w2):=hidU (by
    have h:=hg1.trans hg2
    exact⟨h.os,h.tape,h.output,h.size,λx hx=>h.block x hx⟩)
  clear hsl hg2 hg1 hsz1 Hr Hgl HS
  go_wp2_with fail
  go_loopw [10] (λi wr=>∃ k:Nat,k≤U.length∧i = .int .i64 k∧Hid (GRel wr (w.heap.size+1) w2.heap.size (grpOf (U.take k)))∧Hid (w2.grownBy wr (some (w.heap.size+1)))) (λi _=>U.length-(intOf i).toNat)
  case atStart=>exact⟨0,Nat.zero_le _,rfl,HG0,hidU ⟨rfl,rfl,rfl,Nat.le_refl _,λ_ _ _=>rfl⟩⟩
  case round=>
    obtain⟨k,hk,rfl,HG,HW⟩:=hrel
    by_cases hkn:k<U.length
    · obtain⟨bk,o,rfl,hbk,hbM,hat⟩:=Hsl.out.resolve_left (ne_nil_of hkn)
      obtain⟨u,hu'⟩:=len_lt hkn
      obtain⟨hd,hA⟩:=hat k u hu'
      have HAr:At wr ⟨bk,o+k*35,none⟩ (useCells u).toArray.toList:=at_block (HW.out.block bk hbk (by simp;omega)) hA
      have hCN:(useCells u).toArray.size=N:=by rw[List.size_toArray,useCells_len hd,HN.out]
      have h0:(loadCellsFrom ⟨bk,o+k*35,none⟩ 0 N #[]).run Tryz.prog wr = .ok (useCells u).toArray wr:=row_cells hCN HAr
      obtain⟨w3,h1,h2,h3,h4⟩:=row_copy wr (T:=T) AT.z hCN (use_one u)
      have hD:(u.2.2.2.1.map (Value.int .u8)).toArray.size=N2:=by rw[List.size_toArray,List.length_map,hd,HN2.out]
      have h5:(loadCellsFrom ⟨wr.heap.size,3,none⟩ 0 N2 #[]).run Tryz.prog w3 = .ok (u.2.2.2.1.map (Value.int .u8)).toArray w3:=row_cells hD (At.block (c1:=[.int .u64 u.1,.int .i64 u.2.1,.int .i64 u.2.2.1]) (c2:=[]) h4 (by simp[useCells]))
      have h6:w3.cell? ⟨wr.heap.size,0,none⟩=some (.int .u64 u.1):=by
        unfold World.cell?
        simp[h4,useCells]
      generalize (useCells u).toArray=C at *
      generalize hDD:(u.2.2.2.1.map (Value.int .u8)).toArray=D at *
      have hkd:Value.agg D=digV u.2.2.2.1:=by rw[← hDD];rfl
      have hdl:=dec_lt hkn
      have hwu:=wrap_up hkn (by omega)
      have HG3:=hidU (HG.out.grow (grownOf h2 none))
      have HW3:=hidU (HW.out.trans (grownOf h2 _))
      have Hu:=hidU hu'
      have Hd:=hidU hd
      have hMr:w.heap.size+1<wr.heap.size+1:=by have:=HW.out.size;omega
      have hw23:w2.heap.size≤w3.heap.size:=HW3.out.size
      have hgl:=grp_le hl k u.2.2.2.1
      clear hA HAr hat hD hDD hu' hd HG HW
      rw[e1,e2,e3,e4]
      go_wp2_with (first
        | (refine wpList_mapEntry_grp rfl _ _ rfl (M:=w.heap.size+1) (base:=w2.heap.size) (d:=u.2.2.2.1) rfl rfl (HG3.out.grow (World.grownBy_alloc _ _ none)) Hd.out ?_;intro v st w4 G1 j g es clk q1 q2 q3 q4 q5 q6 q7)
        | (at_builtin;refine wpList_append_own_at _ rfl _ _ 83 rfl w2.heap.size 22 i0 (.int .u64 0) 1 8 Tryz.underlying83 hi hz0 hz1 hz2 rfl (by decide) v g.length (g.map (Value.int .u64)) rfl q6 ⟨wr.heap.size+1,0,none⟩ 1 1 [.int .u64 u.1] rfl rfl (new_cell h3 q1 hMr) one_int (len_ok q7 hgl).1 (len_ok q7 hgl).2 (Nat.le_trans hw23 (q2 ▸ alloc_le _ _)) ?_;intro v' w5 hown' hgrow hnil hloc))
      obtain⟨w6,hrun,hG6,hg6⟩:=entryStore_grp (g':=g++[u.1]) q3 q4 hgrow (own_app hown') hloc
      have hrun':(Instr.entryStore 129 (.map (some (w.heap.size+1))) (.int .i64 (st:Nat)) v').run Tryz.prog w5 = .ok () w6:=hrun
      clear hrun
      have R1:=grp_next Hu hG6 q5
      have R2:=grown_all HW3 (World.grownBy_alloc _ _ _) q1 hgrow q6 hg6
      rw[hrun',Result.andThen_ok]
      clear hrun' hG6 hg6 q1 q2 q3 q4 q5 q6 q7 hgrow hnil hloc hown' h0 h1 h2 h4 h5 h6 hCN hkd hi hz0 hz1 hz2 hgl hMr hw23 HW3 HG3 Hu Hd h3
      go_wp2_with fail
      exact⟨⟨k+1,hkn,rfl,R1,R2⟩,meas_up hkn⟩
    · have hdn:=dec_nlt hkn
      have hkl:U.take k=U:=List.take_of_length_le (by omega)
      rw[hkl]at HG
      go_wp2_with fail
      go_ret
      exact⟨w.heap.size+1,w2.heap.size,rfl,by omega,HW.out.size,belowM HB2.out HW.out (by omega),HG.out⟩
end Go.Proofs.YtemhlkdingkjnaaGreatDoor
namespace Go.Proofs.YtemhlkdingkjnaaGreatDoor
open Go Go.Va Go.Proofs Go.RowKit
theorem clip_none (w:World):Calls Tryz.prog 60 #[.slice none 0 0] w λe w'=>e = .returned (.slice none 0 0)∧w'=w:=by
  have mixed:=mixed
  go_enter Tryz.func60,Tryz.ntmps60
  go_wp2_with fail
  go_ret
  exact⟨rfl,rfl⟩
theorem clip_some (b n cap:Nat)(hn:n≤cap)(w:World):Calls Tryz.prog 60 #[.slice (some ⟨b,0,none⟩) n cap] w λe w'=>e = .returned (.slice (some ⟨b,0,none⟩) n n)∧w'=w:=by
  have mixed:=mixed
  go_enter Tryz.func60,Tryz.ntmps60
  go_wp2_with fail
  go_ret
  exact⟨rfl,rfl⟩
def Clipped (w:World)(base:Nat)(v:Value)(l:List Int):Prop:=(v = .slice none 0 0∧l=[])∨∃ g cur,v = .slice (some ⟨g,0,none⟩) l.length l.length∧base≤g∧w.heap[g]?=some (.cells cur 22 (0,0))∧l.length≤cur.size∧cur.toList.take l.length=l.map (Value.int .u64)
theorem clip_own {w:World}{base:Nat}{v:Value}{l:List Int}(h:w.ownsRow base 22 1 v l.length (l.map (Value.int .u64))):Calls Tryz.prog 60 #[v] w λe w'=>∃ x,e = .returned x∧w'=w∧Clipped w base x l:=by
  rcases h.2 with ⟨rfl,h2⟩ | ⟨g,cap,cur,rfl,h1,h2,h3,h4,h5,h6⟩
  · refine (clip_none w).mono ?_
    rintro e w' ⟨rfl,rfl⟩
    exact⟨_,rfl,rfl,.inl ⟨rfl,List.length_eq_zero_iff.1 h2⟩⟩
  · refine (clip_some g l.length cap h3 w).mono ?_
    rintro e w' ⟨rfl,rfl⟩
    refine⟨_,rfl,rfl,.inr ⟨g,cur,rfl,h1,h2,by omega,?_⟩⟩
    rw[Nat.mul_one]at h6
    exact h6
theorem below_load {w w1 w2:World}{b N:Nat}{D:Array Value}{ty:TypeId}(hN:D.size=N)(h:w1.heap[b]?=some (.cells D ty))(hg:Below w1.heap.size w1 w2):(loadCellsFrom ⟨b,0,none⟩ 0 N #[]).run Tryz.prog w2 = .ok D w2:=by
  have hb:b<w1.heap.size:=(Array.getElem?_eq_some_iff.1 h).1
  exact row_cells hN (At.block (c1:=[]) (c2:=[]) ((hg.block b hb).trans h) (by simp))
theorem below_trans {a b c:World}(h:Grow a b)(g:Below b.heap.size b c):Below a.heap.size a c:=
  ⟨g.os.trans h.os,g.tape.trans h.tape,g.output.trans h.output,Nat.le_trans h.size g.size,λx hx=>(g.block x (Nat.lt_of_lt_of_le hx h.size)).trans (h.block x hx)⟩
theorem lookup_agg {w:World}{M base:Nat}{G:Grp}{d:Dig}{D:Array Value}(h:GRel w M base G)(hd:d.length=32)(hk:digV d = .agg D) :
    ∃ v,(Instr.lookup 129 (.map (some M)) (.agg D) false).run Tryz.prog w = .ok v w∧w.ownsRow base 22 1 v (getG G d).length ((getG G d).map (Value.int .u64)):=by
  rw[← hk];exact lookup_grp h hd
theorem base_le {a b:World}{base:Nat}(h:Grow a b)(hb:b.heap.size<base):a.heap.size≤base:=Nat.le_trans h.size (Nat.le_of_lt hb)
theorem below_undrew {a b:World}(h:Below a.drew.heap.size a.drew b):Below a.heap.size a b:=⟨h.os,h.tape,h.output,h.size,h.block⟩
theorem grow_drew {a b:World}(h:Grow a b):Grow a b.drew:=⟨h.os,h.tape,h.output,h.size,h.block⟩
set_option maxRecDepth 100000 in
theorem holders_walk {n:Nat}{s:D_api_State}{U:List D_count_Use}(hu:F_count_Uses.f n s=some (U,()))(hl:U.length≤16777216){d:Dig}(hd:d.length=32){w:World}{S:Nat→Prop}(hS:∀ b,S b→b<w.heap.size)
    (hgl:(∀ p∈Gl.tab,S p.1∧∃ cs,p.2 cs∧At w ⟨p.1,0,none⟩ cs)∧∀ p∈Gl.ex,S p.1∧∃ o,w.heap[p.1]?=some o∧p.2 o) {c:Array Value} (hr:Rd S w T_api_State s c.toList) :
    Calls Tryz.prog 27 #[.agg c,digV d] w λe w'=>∃ v base,e = .returned v∧w.heap.size≤base∧Below w.heap.size w w'∧Clipped w' base v (getG (grpOf U) d):=by
  have mixed:=mixed
  obtain⟨K,N2,Z2,hK,hN2,AK⟩:=digTy
  have e1:Op.load 47 (Operand.tmp 3)=Op.load K (Operand.tmp 3):=by rw[hK]
  have HN2:=hidU hN2
  clear hK hN2
  have aggK:=AK.agg
  have sizeK:=AK.size
  have hc4:c.size=4:=by rw[← Array.length_toList];exact Rd.length _ _ _ _ _ hr
  obtain⟨c0,c1,c2,c3,rfl⟩:=arr4 hc4
  have Hr:=hidU hr
  have Hgl:=hidU hgl
  have HS:=hidU hS
  clear hr hgl hS hc4
  obtain⟨D,hD⟩:∃ D,D=(d.map (Value.int .u8)).toArray:=⟨_,rfl⟩
  have hkd:digV d = .agg D:=by rw[hD];rfl
  have hDN:D.size=N2:=by rw[hD,List.size_toArray,List.length_map,hd,HN2.out]
  have idx:∀ w1,Grow w w1→Calls Tryz.prog 61 #[.agg #[c0,c1,c2,c3]] w1 λe w'=>∃ M base,e = .returned (.map (some M))∧w1.heap.size<base∧base≤w'.heap.size∧Below w1.heap.size w1 w'∧GRel w' M base (grpOf U):=λw1 hg1=>
    index_walk hu hl (S:=S) (λb hb=>Nat.lt_of_lt_of_le (HS.out b hb) hg1.size) ⟨λp hp=>by
      obtain⟨q1,cs,q2,q3⟩:=Hgl.out.1 p hp
      exact⟨q1,cs,q2,(hg1.keep S).at q1 q3⟩,λp hp=>by
      obtain⟨q1,ob,q2,q3⟩:=Hgl.out.2 p hp
      exact⟨q1,ob,(hg1.block p.1 (HS.out _ q1)).trans q2,q3⟩⟩ (Rd.keep (hg1.keep S) (λ_ h=>h) _ _ _ Hr.out)
  have Idx:=hidU idx
  have hg2:Grow w ((w.alloc (.cells #[c0,c1,c2,c3] 25)).alloc (.cells D 47)):=(Grow.alloc w _).trans (Grow.alloc _ _)
  have hbD:((w.alloc (.cells #[c0,c1,c2,c3] 25)).alloc (.cells D 47)).heap[w.heap.size+1]?=some (.cells D 47):=by
    have:=heap_alloc_new (w.alloc (.cells #[c0,c1,c2,c3] 25)) (.cells D 47)
    rw[show (w.alloc (.cells #[c0,c1,c2,c3] 25)).heap.size=w.heap.size+1 by simp]at this
    exact this
  have hl0:=below_load (w:=w) hDN hbD (Below.refl _ _)
  have hl1:(loadCellsFrom ⟨w.heap.size+1,0,none⟩ 0 N2 #[]).run Tryz.prog ((w.alloc (.cells #[c0,c1,c2,c3] 25)).alloc (.cells D 47)).drew = .ok D ((w.alloc (.cells #[c0,c1,c2,c3] 25)).alloc (.cells D 47)).drew:=
    row_cells hDN (At.block (c1:=[]) (c2:=[]) hbD (by simp))
  have hl2:(loadCellsFrom ⟨w.heap.size+1,0,none⟩ 0 N2 #[]).run Tryz.prog ((w.alloc (.cells #[c0,c1,c2,c3] 25)).alloc (.cells D 47)).drew.drew = .ok D ((w.alloc (.cells #[c0,c1,c2,c3] 25)).alloc (.cells D 47)).drew.drew:=
    row_cells hDN (At.block (c1:=[]) (c2:=[]) hbD (by simp))
  have HBD:=hidU hbD
  have HG2:=hidU hg2
  clear idx Hr Hgl HS hbD hg2
  rw[hkd]
  have Hd:=hidU hd
  have HD:=hidU hD
  have HK:=hidU hkd
  clear hd hD hkd
  go_enter Tryz.func27,Tryz.ntmps27
  rw[e1]
  go_wp2_with fail
  go_region_with (first
    | (go_at_call 61;refine (Idx.out _ (grow_drew HG2.out)).mono ?_;rintro en w2 ⟨M,base,rfl,hb1,hb2,hbel,hG⟩;have HB:=hidU (below_undrew hbel);have hl3:=below_load (w:=w) hDN HBD.out HB.out;obtain⟨v,hlk,hown⟩:=lookup_agg hG Hd.out HK.out;clear hbel)
    | (go_at_call 60;refine (clip_own hown).mono ?_;rintro en w3 ⟨x,rfl,hw3,hcl⟩;subst hw3))
  all_goals (try go_wp2_with fail)
  all_goals (go_ret;exact⟨x,base,rfl,base_le HG2.out hb1,below_trans HG2.out HB.out,hcl⟩)
end Go.Proofs.YtemhlkdingkjnaaGreatDoor
namespace Go.Va
open Go
theorem leaf_row_any [Gl] {P : Program} {fid t : Nat} {e : Ty} {ts : List Ai} {f : DIn ts → Option (DOut ts [(t, .val (.r 0 e))])} (hfn : ∃ fn, P.funcs[fid]? = some fn ∧ (fn.name == "runtime.NumGoroutine") = false ∧ fn.body.isNone = false)
    (hbn:boxSig 0 ts=[]) (hheap:∀ v,heapAll (inSig 0 ts) v=[])
    (h:∀ v u,f v=some u→∀ E w vals,GlOk E w→(∀ b,E.S b→b<w.heap.size)→C E w (listAV (argAVs 0 ts v)) vals→Calls P fid vals.toArray w λen w'=>
      ∃ x,en = .returned x∧Grow w w'∧((x = .slice none 0 0∧(u.1:List (Den e))=[])∨∃ g cs ty c1 c2,x = .slice (some ⟨g,0,none⟩) (List.length (α:=Den e) u.1) (List.length (α:=Den e) u.1)∧w.heap.size≤g∧w'.heap[g]?=some (.cells cs ty (0,0))∧cs.toList=c1++c2∧∀ S w',RdL (Rd S w' e) u.1 c1)) :
    FnOk P fid ts [(t,.val (.r 0 e))] f:=by
  refine⟨hfn,λv u hv P0 S0 E w vals hh hc=>(h v u hv E w vals hh.gl hh.sIn hc).mono ?_⟩
  rintro en w' ⟨x,rfl,hg,hx⟩
  have e1:heapOf (inSig 0 ts) v=λ_ => .un:=by unfold heapOf;rw[hheap];rfl
  rw[e1]at hh
  have e2:heapOf (gOut ts [(t,.val (.r 0 e))]) u=upd1 (nmO 0) (.live (.row e u.1)) (λ_ => .un):=by
    have:∀ (g:List Si),g=[]→∀ (z:Den (Ty.slice e)) (y:Dens g),heapOf (.val t (Sh.nm (.r 0 e) (nmO 0))::g) (z,y)=upd1 (nmO 0) (.live (.row e z)) (λ_ => .un):=by
      intro g hg;subst hg;intro z y;rfl
    exact this _ hbn u.1 u.2
  have e3:oneAV (outAVs id id 0 [(t,.val (.r 0 e))] (boxSig 0 ts) u) = .ow (nmO 0) e none:=rfl
  rcases hx with ⟨rfl,hnil⟩ | ⟨g,cs,ty,c1,c2,rfl,hge,hblk,hcs,hr⟩
  · have ho:OREL (E.new (nmO 0) none ⟨.row e,0,List.length (α:=Den e) u.1⟩) w' (nmO 0) (.row e u.1):=by
      refine⟨0,by simp[Env.new],?_⟩
      simp only[Env.new,if_true]
      exact hnil
    obtain⟨g1,g2⟩:=hh.new (q:=nmO 0) (b:=none) rfl hg (λx hx=>nomatch hx) ho
    refine⟨_,_,rfl,by rw[e2];exact g1,g2.pub,?_⟩
    rw[e3,V_one rfl]
    refine⟨none,0,0,rfl,.inl rfl,λL hL => ?_⟩
    simp only[Env.new,if_true]at hL
    injection hL with hL
    subst hL
    refine⟨rfl,0,⟨rfl,?_⟩,by simp,?_⟩
    · show 0=List.length (α:=Den e) u.1
      rw[hnil];rfl
    · simp only[Env.new,if_true]
  · have hl:c1.length=List.length (α:=Den e) u.1*e.sz:=RdL.length (λx c=>Rd.length (λ_=>True) w e x c) u.1 c1 (hr _ _)
    have hcl:c1.length≤cs.size:=by
      have:=congrArg List.length hcs
      rw[List.length_append,Array.length_toList]at this
      omega
    have ho:OREL (E.new (nmO 0) (some g) ⟨.row e,cs.size,List.length (α:=Den e) u.1⟩) w' (nmO 0) (.row e u.1):=by
      refine⟨cs.size,by simp[Env.new],?_⟩
      simp only[Env.new,if_true]
      exact⟨cs,ty,(0,0),c1,c2,hblk,.inl rfl,rfl,hcs,hr _ _⟩
    obtain⟨g1,g2⟩:=hh.new (q:=nmO 0) (b:=some g) rfl hg (λx hx=>by injection hx with hx;omega) ho
    refine⟨_,_,rfl,by rw[e2];exact g1,g2.pub,?_⟩
    rw[e3,V_one rfl]
    refine⟨some ⟨g,0,none⟩,_,_,rfl,.inl rfl,λL hL => ?_⟩
    simp only[Env.new,if_true]at hL
    injection hL with hL
    subst hL
    refine⟨rfl,0,⟨rfl,rfl⟩,by simp,?_⟩
    simp only[Env.new,if_true]
    exact⟨.inr (by simp),Nat.le_refl _,by simp only[Nat.zero_add];omega,by simp⟩
end Go.Va
namespace Go.Proofs.YtemhlkdingkjnaaGreatDoor
open Go Go.Va Go.Proofs Go.RowKit
theorem rdL_ints (k:IntKind)(l:List Int)(S:Nat→Prop)(w:World):RdL (Rd S w (.int k)) l (l.map (Value.int k)):=by
  induction l with
  | nil=>exact rfl
  | cons x l ih=>exact⟨[.int k x],_,rfl,rfl,ih⟩
namespace F_count_Holders
abbrev ia:List Ai:=[.dat T_api_State,.dat (.arr 32 (.int .u8))]
abbrev io:List (Nat×Oi):=[(4,.val (.r 0 (.int .u64)))]
abbrev R:Type:=DOut ia io
noncomputable def f (n:Nat)(s:D_api_State)(d:List Int):Option R:=bnd (F_count_Uses.f n s) λu=>gIf (u.1.length≤16777216) (some (getG (grpOf u.1) d,()))
theorem ok (n:Nat):FnOk Tryz.prog 27 ia io (λv=>f n v.1 v.2.1):=by
  refine leaf_row_any ⟨Tryz.f27,Tryz.func27,by kernel_rfl,by kernel_rfl⟩ rfl (λ_=>rfl) (λv u h E w vals hgl hS hc => ?_)
  obtain⟨s,d,⟨⟩⟩:=v
  unfold f at h
  obtain⟨U,h1,h2⟩:=Go.Va.bnd_some h
  obtain⟨U,⟨⟩⟩:=U
  by_cases hl:U.length≤16777216
  case neg=>
    have h2:gIf (U.length≤16777216) (some (getG (grpOf U) d,()))=some u:=h2
    rw[gIf_eq,if_neg hl]at h2;exact nomatch h2
  rw[gIf_pos hl]at h2
  injection h2 with h2
  subst h2
  obtain⟨x1,vs1,rfl,k1,x2,vs2,rfl,k2,k3⟩:=hc
  have k3:vs2=[]:=k3
  subst k3
  obtain⟨c,rfl,hr⟩:=(V_agg (E:=E) (by rfl)).1 k1
  obtain⟨dc,rfl,hd⟩:=(V_agg (E:=E) (by rfl)).1 k2
  obtain⟨hd1,hd2⟩:=rd_dig hd
  have hdv:Value.agg dc=digV d:=by
    unfold digV
    rw[← hd2]
  have hgo:=holders_walk h1 hl hd1 hS hgl hr
  rw[← hdv]at hgo
  refine hgo.mono ?_
  rintro en w' ⟨v,base,rfl,hb,hbel,hcl⟩
  have hg:Grow w w':=⟨hbel.os,hbel.tape,hbel.output,hbel.size,λb h=>hbel.block b h⟩
  refine⟨v,rfl,hg,?_⟩
  rcases hcl with ⟨q1,q2⟩ | ⟨g,cur,q1,q2,q3,q4,q5⟩
  · exact .inl ⟨q1,q2⟩
  · refine .inr ⟨g,cur,22,_,cur.toList.drop (getG (grpOf U) d).length,q1,Nat.le_trans hb q2,q3,?_,λS w'=>rdL_ints .u64 _ S w'⟩
    rw[← q5,List.take_append_drop]
noncomputable def en (n:Nat):Entry:=mkEntry 27 ia io (λv=>f n v.1 v.2.1)
end F_count_Holders
end Go.Proofs.YtemhlkdingkjnaaGreatDoor
namespace Go.Proofs.YtemhlkdingkjnaaGreatDoor
open Go Go.Va Go.Proofs
namespace F_slices_Clip_uint64
abbrev ia:List Ai:=[.dat (.slice (.int .u64))]
abbrev io:List (Nat×Oi):=[(2,.dat (.slice (.int .u64)))]
abbrev R:Type:=DOut ia io
noncomputable def X (n:Nat):Ctx:=⟨⟨tab,[],0,[]⟩,9,bnOf 0 ia⟩
noncomputable def T:CT := .o
noncomputable def f (n:Nat)(s_:List (Int)):Option R:=fRun (X n) n T Tryz.f60 ia io (s_,())
theorem e0 (n:Nat) (s_:List (Int)):f n s_ =
  gIf (0≤((s_.length:Nat):Int)∧((s_.length:Nat):Int)≤((s_.length:Nat):Int)) (
    gIf (0≤(0:Int)∧(0:Int)≤((s_.length:Nat):Int)) (
      gIf (((s_.length:Nat):Int)≤((s_.length:Nat):Int)∧((s_.length:Nat):Int)≤((s_.length:Nat):Int)∧true=true) (
        some (((s_.take (((s_.length:Nat):Int).toNat)).drop 0),())
        )
      )
    ):=(hideF_eq _).trans (by kernel_rfl)
theorem phi (n:Nat):∀ e∈(X n).c.Φ,EntryOk Tryz.prog e:=allE_nil
theorem ok (n:Nat):FnOk Tryz.prog 60 ia io (fRun (X n) n T Tryz.f60 ia io):=tree_ok mixed tabIs (phi n) Tryz.func60 (by kernel_rfl) rfl
noncomputable def en (n:Nat):Entry:=mkEntry 60 ia io (fRun (X n) n T Tryz.f60 ia io)
end F_slices_Clip_uint64
end Go.Proofs.YtemhlkdingkjnaaGreatDoor
namespace Go.Proofs.YtemhlkdingkjnaaGreatDoor
open Go Go.Va Go.Proofs
namespace F_count_Orphans
abbrev ia:List Ai:=[.dat T_api_State,.dat (.slice (.int .u64))]
abbrev io:List (Nat×Oi):=[(4,.dat (.slice (.int .u64)))]
abbrev R:Type:=DOut ia io
noncomputable def X (n:Nat):Ctx:=⟨⟨tab,[F_count_all.en n,F_slices_Clip_uint64.en n],0,[]⟩,40,bnOf 0 ia⟩
abbrev g1:List Si:=[.dat 1 (.slice (.int .u64)),.val 5 (.m 200500 (.int .u64) .bool),.val 13 (.r 201300 T_count_says),.dat 14 (.int .i64),.dat 15 (.int .i64)]
abbrev g2:List Si:=[.dat 1 (.slice (.int .u64)),.val 5 (.m 200500 (.int .u64) .bool)]
abbrev g3:List Si:=[.val 5 (.m 200500 (.int .u64) .bool),.val 8 (.r 200800 (.int .u64)),.dat 23 (.slice (.int .u64)),.dat 24 (.int .i64),.dat 25 (.int .i64)]
abbrev g4:List Si:=[.val 8 (.r 200800 (.int .u64))]
noncomputable def T:CT:=(.s .o (.s .o (.s (.s .o (.b (.l g1 .o))) (.r g2 (.s .o (.s (.s .o (.b (.l g3 .o))) (.r g4 .o)))))))
noncomputable def J1 (n:Nat)(m:Nat):(List (Int))×(List (Int×Bool))×(List (D_count_says))×Int×Int×Unit→Option R:=jL (X n) n T (bodyOf Tryz.f28) (endK ia io) g1 [1,1,0,1,0] [] m
noncomputable def J2 (n:Nat):(List (Int))×(List (Int×Bool))×Unit→Option R:=jR (X n) n T (bodyOf Tryz.f28) (endK ia io) g2 [1,1,1] []
noncomputable def J3 (n:Nat)(m:Nat):(List (Int×Bool))×(List (Int))×(List (Int))×Int×Int×Unit→Option R:=jL (X n) n T (bodyOf Tryz.f28) (endK ia io) g3 [1,1,1,1,0,1,0] [] m
noncomputable def J4 (n:Nat):(List (Int))×Unit→Option R:=jR (X n) n T (bodyOf Tryz.f28) (endK ia io) g4 [1,1,1,1,1] []
noncomputable def f (n:Nat)(s_:D_api_State)(list:List (Int)):Option R:=fRun (X n) n T Tryz.f28 ia io (s_,list,())
theorem e0 (n:Nat)(s_:D_api_State)(list:List (Int)):f n s_ list =
  bnd (F_count_all.f n s_) λu1=>
  J1 n n (list,[],u1.1,((u1.1.length:Nat):Int),0,()):=(hideF_eq _).trans (by kernel_rfl)
theorem e1 (n m:Nat)(list:List (Int))(held:List (Int×Bool))(t13:List (D_count_says))(t14:Int)(t15:Int):J1 n (m+1) (list,held,t13,t14,t15,()) =
  bIf ((hide (decide (t15<t14)))) (
    gIf (0≤t15∧t15<((t13.length:Nat):Int)) (
      J1 n m (list,(mSet (.int .u64) .bool held ((List.getD t13 (0+t15.toNat) (Va.dflt T_count_says)).1) true),t13,t14,(IntKind.i64.wrap (t15+(1:Int))),())
      )
    ) (
    J2 n (list,held,())
    ):=(hideF_eq _).trans (by kernel_rfl)
theorem e2 (n:Nat)(list:List (Int))(held:List (Int×Bool)):J2 n (list,held,()) =
  J3 n n (held,[],list,((list.length:Nat):Int),0,()):=(hideF_eq _).trans (by kernel_rfl)
theorem e3 (n m:Nat) (held:List (Int×Bool)) (out:List (Int)) (t23:List (Int)) (t24:Int) (t25:Int):J3 n (m+1) (held,out,t23,t24,t25,()) =
  bIf ((hide (decide (t25<t24)))) (
    gIf (0≤t25∧t25<((t23.length:Nat):Int)) (
      bIf ((!((mGet (.int .u64) .bool held (List.getD t23 t25.toNat 0)).1))) (
        gIf ((out.length+1)*8≤70368744177664) (
          J3 n m (held,(out++([(List.getD t23 t25.toNat 0)]:List (Int))),t23,t24,(IntKind.i64.wrap (t25+(1:Int))),())
          )
        ) (
        J3 n m (held,out,t23,t24,(IntKind.i64.wrap (t25+(1:Int))),())
        )
      )
    ) (
    J4 n (out,())
    ):=(hideF_eq _).trans (by kernel_rfl)
theorem e4 (n:Nat)(out:List (Int)):J4 n (out,()) =
  bnd (F_slices_Clip_uint64.f n out) λu1=>
  some (u1.1,()):=(hideF_eq _).trans (by kernel_rfl)
theorem phi (n:Nat):∀ e∈(X n).c.Φ,EntryOk Tryz.prog e:=allE_cons (mkEntry_ok (F_count_all.ok n)) (allE_cons (mkEntry_ok (F_slices_Clip_uint64.ok n)) (allE_nil))
theorem ok (n:Nat):FnOk Tryz.prog 28 ia io (fRun (X n) n T Tryz.f28 ia io):=tree_ok mixed tabIs (phi n) Tryz.func28 (by kernel_rfl) rfl
noncomputable def en (n:Nat):Entry:=mkEntry 28 ia io (fRun (X n) n T Tryz.f28 ia io)
end F_count_Orphans
end Go.Proofs.YtemhlkdingkjnaaGreatDoor
namespace Go.Proofs.YtemhlkdingkjnaaGreatDoor
open Go Go.Va Go.Proofs
namespace F_law16_awake
abbrev ia:List Ai:=[]
abbrev io:List (Nat×Oi):=[(0,.dat .bool)]
noncomputable def f:Option (DOut ia io):=some (true,())
theorem ok:FnOk Tryz.prog 24 ia io (λ_=>f):=by
  refine leaf_ok ⟨Tryz.f24,Tryz.func24,by kernel_rfl,by kernel_rfl⟩ rfl (λ_=>rfl) (λ_=>rfl) (λv u h E w vals hgl hc => ?_)
  have hc:vals=[]:=hc
  subst hc
  unfold f at h
  injection h with h
  subst h
  refine (Aw16.runs w).mono ?_
  rintro en w' ⟨rfl,hb⟩
  exact⟨_,rfl,hb,λE=>V_bool.2 rfl⟩
noncomputable def en:Entry:=mkEntry 24 ia io (λ_=>f)
end F_law16_awake
end Go.Proofs.YtemhlkdingkjnaaGreatDoor
namespace Go.Proofs.YtemhlkdingkjnaaGreatDoor
open Go Go.Va Go.Proofs
namespace F_ref16_Numbers
abbrev ia:List Ai:=[.dat (.slice (.int .u64)),.dat (.slice (.int .u64))]
abbrev io:List (Nat×Oi):=[(4,.dat .bool)]
abbrev R:Type:=DOut ia io
noncomputable def X (n:Nat):Ctx:=⟨⟨tab,[],0,[]⟩,26,bnOf 0 ia⟩
abbrev g1:List Si:=[.dat 0 (.slice (.int .u64)),.dat 1 (.slice (.int .u64)),.dat 5 (.int .i64)]
abbrev g2:List Si:=[]
noncomputable def T:CT:=(.s .o (.s .o (.s (.s .o (.b (.l g1 .o))) (.r g2 .o))))
noncomputable def J1 (n:Nat)(m:Nat):(List (Int))×(List (Int))×Int×Unit→Option R:=jL (X n) n T (bodyOf Tryz.f26) (endK ia io) g1 [1,1,0,1,0] [] m
noncomputable def J2 (n:Nat):Unit→Option R:=jR (X n) n T (bodyOf Tryz.f26) (endK ia io) g2 [1,1,1] []
noncomputable def f (n:Nat)(a:List (Int))(b:List (Int)):Option R:=fRun (X n) n T Tryz.f26 ia io (a,b,())
theorem e0 (n:Nat)(a:List (Int))(b:List (Int)):f n a b =
  bIf ((hide (((a.length:Nat):Int) != ((b.length:Nat):Int)))) (
    some (false,())
    ) (
    J1 n n (a,b,0,())
    ):=(hideF_eq _).trans (by kernel_rfl)
theorem e1 (n m:Nat) (a:List (Int)) (b:List (Int)) (i:Int):J1 n (m+1) (a,b,i,()) =
  bIf ((hide (decide (i<((a.length:Nat):Int))))) (
    gIf (0≤i∧i<((a.length:Nat):Int)) (
      gIf (0≤i∧i<((b.length:Nat):Int)) (
        bIf ((hide ((List.getD a i.toNat 0) != (List.getD b i.toNat 0)))) (
          some (false,())
          ) (
          J1 n m (a,b,(IntKind.i64.wrap (i+(1:Int))),())
          )
        )
      )
    ) (
    J2 n (())
    ):=(hideF_eq _).trans (by kernel_rfl)
theorem e2 (n:Nat):J2 n (()) =
  some (true,()):=(hideF_eq _).trans (by kernel_rfl)
theorem phi (n:Nat):∀ e∈(X n).c.Φ,EntryOk Tryz.prog e:=allE_nil
theorem ok (n:Nat):FnOk Tryz.prog 26 ia io (fRun (X n) n T Tryz.f26 ia io):=tree_ok mixed tabIs (phi n) Tryz.func26 (by kernel_rfl) rfl
noncomputable def en (n:Nat):Entry:=mkEntry 26 ia io (fRun (X n) n T Tryz.f26 ia io)
end F_ref16_Numbers
end Go.Proofs.YtemhlkdingkjnaaGreatDoor
namespace Go.Proofs.YtemhlkdingkjnaaGreatDoor
open Go Go.Va Go.Proofs
namespace F_law16_CountHolders
abbrev ia:List Ai:=[.dat T_api_State,.dat (.arr 32 (.int .u8)),.dat (.slice (.int .u64))]
abbrev io:List (Nat×Oi):=[(6,.dat .bool)]
abbrev R:Type:=DOut ia io
noncomputable def X (n:Nat):Ctx:=⟨⟨tab,[F_ref16_Uses.en n,F_law16_awake.en,F_ref16_Numbers.en n,F_count_Holders.en n,F_count_Orphans.en n],0,[]⟩,88,bnOf 0 ia⟩
abbrev g1:List Si:=[.dat 2 (.slice (.int .u64)),.ref 3 3 T_api_State,.ref 4 4 (.arr 32 (.int .u8)),.val 7 (.r 200700 T_count_Use),.val 8 (.r 200800 (.int .u64)),.val 9 (.r 200900 (.int .u64)),.dat 10 (.int .i64),.box 3 (.d T_api_State),.box 4 (.d (.arr 32 (.int .u8)))]
abbrev g2:List Si:=[.dat 2 (.slice (.int .u64)),.ref 3 3 T_api_State,.ref 4 4 (.arr 32 (.int .u8)),.val 7 (.r 200700 T_count_Use),.val 8 (.r 200800 (.int .u64)),.val 9 (.r 200900 (.int .u64)),.dat 10 (.int .i64),.box 3 (.d T_api_State),.box 4 (.d (.arr 32 (.int .u8)))]
abbrev g3:List Si:=[.dat 2 (.slice (.int .u64)),.ref 3 3 T_api_State,.ref 4 4 (.arr 32 (.int .u8)),.val 7 (.r 200700 T_count_Use),.val 8 (.r 200800 (.int .u64)),.val 9 (.r 200900 (.int .u64)),.box 3 (.d T_api_State),.box 4 (.d (.arr 32 (.int .u8)))]
abbrev g4:List Si:=[.dat 2 (.slice (.int .u64)),.ref 3 3 T_api_State,.ref 4 4 (.arr 32 (.int .u8)),.val 7 (.r 200700 T_count_Use),.val 8 (.r 200800 (.int .u64)),.val 9 (.r 200900 (.int .u64)),.dat 11 (.int .i64),.box 3 (.d T_api_State),.box 4 (.d (.arr 32 (.int .u8)))]
abbrev g5:List Si:=[.dat 2 (.slice (.int .u64)),.ref 3 3 T_api_State,.ref 4 4 (.arr 32 (.int .u8)),.val 7 (.r 200700 T_count_Use),.val 8 (.r 200800 (.int .u64)),.val 9 (.r 200900 (.int .u64)),.dat 11 (.int .i64),.dat 12 .bool,.dat 13 (.int .i64),.box 3 (.d T_api_State),.box 4 (.d (.arr 32 (.int .u8)))]
abbrev g6:List Si:=[.dat 2 (.slice (.int .u64)),.ref 3 3 T_api_State,.ref 4 4 (.arr 32 (.int .u8)),.val 7 (.r 200700 T_count_Use),.val 8 (.r 200800 (.int .u64)),.val 9 (.r 200900 (.int .u64)),.dat 11 (.int .i64),.dat 12 .bool,.dat 13 (.int .i64),.box 3 (.d T_api_State),.box 4 (.d (.arr 32 (.int .u8)))]
abbrev g7:List Si:=[.dat 2 (.slice (.int .u64)),.ref 3 3 T_api_State,.ref 4 4 (.arr 32 (.int .u8)),.val 7 (.r 200700 T_count_Use),.val 8 (.r 200800 (.int .u64)),.val 9 (.r 200900 (.int .u64)),.dat 11 (.int .i64),.dat 12 .bool,.box 3 (.d T_api_State),.box 4 (.d (.arr 32 (.int .u8)))]
abbrev g8:List Si:=[.dat 2 (.slice (.int .u64)),.ref 3 3 T_api_State,.ref 4 4 (.arr 32 (.int .u8)),.val 7 (.r 200700 T_count_Use),.val 8 (.r 200800 (.int .u64)),.val 9 (.r 200900 (.int .u64)),.dat 11 (.int .i64),.box 3 (.d T_api_State),.box 4 (.d (.arr 32 (.int .u8)))]
abbrev g9:List Si:=[.dat 2 (.slice (.int .u64)),.ref 3 3 T_api_State,.ref 4 4 (.arr 32 (.int .u8)),.val 8 (.r 200800 (.int .u64)),.val 9 (.r 200900 (.int .u64)),.box 3 (.d T_api_State),.box 4 (.d (.arr 32 (.int .u8)))]
noncomputable def T:CT:=(.s .o (.s .o (.s .o (.s (.s .o (.b (.l g1 (.s .o (.s .o (.r g2 .o)))))) (.r g3 (.s (.s .o (.b (.l g4 (.s .o (.s (.b (.s .o (.s (.s .o (.b (.l g5 (.s .o (.s .o (.r g6 .o)))))) (.r g7 .o)))) (.r g8 .o)))))) (.r g9 .o)))))))
noncomputable def J1 (n:Nat)(m:Nat):(List (Int))×(List (D_count_Use))×(List (Int))×(List (Int))×Int×D_api_State×(List (Int))×Unit→Option R:=jL (X n) n T (bodyOf Tryz.f5) (endK ia io) g1 [1,1,1,0,1,0] [] m
noncomputable def J2 (n m1:Nat):(List (Int))×(List (D_count_Use))×(List (Int))×(List (Int))×Int×D_api_State×(List (Int))×Unit→Option R:=jR (X n) n T (bodyOf Tryz.f5) (endK ia io) g2 [1,1,1,0,1,0,0,1,1] [m1]
noncomputable def J3 (n:Nat):(List (Int))×(List (D_count_Use))×(List (Int))×(List (Int))×D_api_State×(List (Int))×Unit→Option R:=jR (X n) n T (bodyOf Tryz.f5) (endK ia io) g3 [1,1,1,1] []
noncomputable def J4 (n:Nat)(m:Nat):(List (Int))×(List (D_count_Use))×(List (Int))×(List (Int))×Int×D_api_State×(List (Int))×Unit→Option R:=jL (X n) n T (bodyOf Tryz.f5) (endK ia io) g4 [1,1,1,1,0,1,0] [] m
noncomputable def J5 (n m4:Nat)(m:Nat):(List (Int))×(List (D_count_Use))×(List (Int))×(List (Int))×Int×Bool×Int×D_api_State×(List (Int))×Unit→Option R:=jL (X n) n T (bodyOf Tryz.f5) (endK ia io) g5 [1,1,1,1,0,1,0,0,1,0,0,1,0,1,0] [m4] m
noncomputable def J6 (n m4 m5:Nat):(List (Int))×(List (D_count_Use))×(List (Int))×(List (Int))×Int×Bool×Int×D_api_State×(List (Int))×Unit→Option R:=jR (X n) n T (bodyOf Tryz.f5) (endK ia io) g6 [1,1,1,1,0,1,0,0,1,0,0,1,0,1,0,0,1,1] [m4,m5]
noncomputable def J7 (n m4:Nat):(List (Int))×(List (D_count_Use))×(List (Int))×(List (Int))×Int×Bool×D_api_State×(List (Int))×Unit→Option R:=jR (X n) n T (bodyOf Tryz.f5) (endK ia io) g7 [1,1,1,1,0,1,0,0,1,0,0,1,1] [m4]
noncomputable def J8 (n m4:Nat):(List (Int))×(List (D_count_Use))×(List (Int))×(List (Int))×Int×D_api_State×(List (Int))×Unit→Option R:=jR (X n) n T (bodyOf Tryz.f5) (endK ia io) g8 [1,1,1,1,0,1,0,0,1,1] [m4]
noncomputable def J9 (n:Nat):(List (Int))×(List (Int))×(List (Int))×D_api_State×(List (Int))×Unit→Option R:=jR (X n) n T (bodyOf Tryz.f5) (endK ia io) g9 [1,1,1,1,1] []
noncomputable def f (n:Nat)(s_:D_api_State)(d:List (Int))(list:List (Int)):Option R:=fRun (X n) n T Tryz.f5 ia io (s_,d,list,())
theorem e0 (n:Nat)(s_:D_api_State)(d:List (Int))(list:List (Int)):f n s_ d list =
  bnd (F_ref16_Uses.f n s_) λu1=>
  J1 n n (list,u1.1,([]:List (Int)),([]:List (Int)),0,s_,d,()):=(hideF_eq _).trans (by kernel_rfl)
theorem e1 (n m:Nat) (list:List (Int)) (uses:List (D_count_Use)) (holders:List (Int)) (orphans:List (Int)) (i:Int) (s_:D_api_State) (d:List (Int)):J1 n (m+1) (list,uses,holders,orphans,i,s_,d,()) =
  bIf ((hide (decide (i<((uses.length:Nat):Int))))) (
    gIf (0≤i∧i<((uses.length:Nat):Int)) (
      bIf ((hide (eqD (.arr 32 (.int .u8)) (((((List.getD uses (0+i.toNat) (Va.dflt T_count_Use)).2).2).2).1) d))) (
        gIf (0≤i∧i<((uses.length:Nat):Int)) (
          gIf ((holders.length+1)*8≤70368744177664) (
            J2 n m (list,uses,(holders++([(List.getD uses (0+i.toNat) (Va.dflt T_count_Use)).1]:List (Int))),orphans,i,s_,d,())
            )
          )
        ) (
        J2 n m (list,uses,holders,orphans,i,s_,d,())
        )
      )
    ) (
    J3 n (list,uses,holders,orphans,s_,d,())
    ):=(hideF_eq _).trans (by kernel_rfl)
theorem e2 (n m1:Nat)(list:List (Int))(uses:List (D_count_Use))(holders:List (Int))(orphans:List (Int))(i:Int)(s_:D_api_State)(d:List (Int)):J2 n m1 (list,uses,holders,orphans,i,s_,d,()) =
  J1 n m1 (list,uses,holders,orphans,(IntKind.i64.wrap (i+(1:Int))),s_,d,()):=(hideF_eq _).trans (by kernel_rfl)
theorem e3 (n:Nat)(list:List (Int))(uses:List (D_count_Use))(holders:List (Int))(orphans:List (Int))(s_:D_api_State)(d:List (Int)):J3 n (list,uses,holders,orphans,s_,d,()) =
  J4 n n (list,uses,holders,orphans,0,s_,d,()):=(hideF_eq _).trans (by kernel_rfl)
theorem e4 (n m:Nat)(list:List (Int))(uses:List (D_count_Use))(holders:List (Int))(orphans:List (Int))(i:Int)(s_:D_api_State)(d:List (Int)):J4 n (m+1) (list,uses,holders,orphans,i,s_,d,()) =
  bIf ((hide (decide (i<((list.length:Nat):Int))))) (
    J5 n m n (list,uses,holders,orphans,i,false,0,s_,d,())
    ) (
    J9 n (list,holders,orphans,s_,d,())
    ):=(hideF_eq _).trans (by kernel_rfl)
theorem e5 (n m4 m:Nat) (list:List (Int)) (uses:List (D_count_Use)) (holders:List (Int)) (orphans:List (Int)) (i:Int) (there:Bool) (k_:Int) (s_:D_api_State) (d:List (Int)):J5 n m4 (m+1) (list,uses,holders,orphans,i,there,k_,s_,d,()) =
  bIf ((hide (decide (k_<((uses.length:Nat):Int))))) (
    bIf (there) (
      J6 n m4 m (list,uses,holders,orphans,i,true,k_,s_,d,())
      ) (
      gIf (0≤k_∧k_<((uses.length:Nat):Int)) (
        gIf (0≤i∧i<((list.length:Nat):Int)) (
          J6 n m4 m (list,uses,holders,orphans,i,(hide (((List.getD uses (0+k_.toNat) (Va.dflt T_count_Use)).1)==(List.getD list i.toNat 0))),k_,s_,d,())
          )
        )
      )
    ) (
    J7 n m4 (list,uses,holders,orphans,i,there,s_,d,())
    ):=(hideF_eq _).trans (by kernel_rfl)
theorem e6 (n m4 m5:Nat)(list:List (Int))(uses:List (D_count_Use))(holders:List (Int))(orphans:List (Int))(i:Int)(there:Bool)(k_:Int)(s_:D_api_State)(d:List (Int)):J6 n m4 m5 (list,uses,holders,orphans,i,there,k_,s_,d,()) =
  J5 n m4 m5 (list,uses,holders,orphans,i,there,(IntKind.i64.wrap (k_+(1:Int))),s_,d,()):=(hideF_eq _).trans (by kernel_rfl)
theorem e7 (n m4:Nat) (list:List (Int)) (uses:List (D_count_Use)) (holders:List (Int)) (orphans:List (Int)) (i:Int) (there:Bool) (s_:D_api_State) (d:List (Int)):J7 n m4 (list,uses,holders,orphans,i,there,s_,d,()) =
  bIf ((!there)) (
    gIf (0≤i∧i<((list.length:Nat):Int)) (
      gIf ((orphans.length+1)*8≤70368744177664) (
        J8 n m4 (list,uses,holders,(orphans++([(List.getD list i.toNat 0)]:List (Int))),i,s_,d,())
        )
      )
    ) (
    J8 n m4 (list,uses,holders,orphans,i,s_,d,())
    ):=(hideF_eq _).trans (by kernel_rfl)
theorem e8 (n m4:Nat)(list:List (Int))(uses:List (D_count_Use))(holders:List (Int))(orphans:List (Int))(i:Int)(s_:D_api_State)(d:List (Int)):J8 n m4 (list,uses,holders,orphans,i,s_,d,()) =
  J4 n m4 (list,uses,holders,orphans,(IntKind.i64.wrap (i+(1:Int))),s_,d,()):=(hideF_eq _).trans (by kernel_rfl)
theorem e9 (n:Nat)(list:List (Int))(holders:List (Int))(orphans:List (Int))(s_:D_api_State)(d:List (Int)):J9 n (list,holders,orphans,s_,d,()) =
  bnd (F_law16_awake.f) λu1=>
  bIf (u1.1) (
    bnd (F_count_Holders.f n s_ d) λu2=>
    bnd (F_ref16_Numbers.f n u2.1 holders) λu3=>
    bIf (u3.1) (
      bnd (F_count_Orphans.f n s_ list) λu4=>
      bnd (F_ref16_Numbers.f n u4.1 orphans) λu5=>
      some (u5.1,())
      ) (
      some (false,())
      )
    ) (
    some (false,())
    ):=(hideF_eq _).trans (by kernel_rfl)
theorem phi (n:Nat):∀ e∈(X n).c.Φ,EntryOk Tryz.prog e:=allE_cons (mkEntry_ok (F_ref16_Uses.ok n)) (allE_cons (mkEntry_ok (F_law16_awake.ok)) (allE_cons (mkEntry_ok (F_ref16_Numbers.ok n)) (allE_cons (mkEntry_ok (F_count_Holders.ok n)) (allE_cons (mkEntry_ok (F_count_Orphans.ok n)) (allE_nil)))))
theorem ok (n:Nat):FnOk Tryz.prog 5 ia io (fRun (X n) n T Tryz.f5 ia io):=tree_ok mixed tabIs (phi n) Tryz.func5 (by kernel_rfl) rfl
noncomputable def en (n:Nat):Entry:=mkEntry 5 ia io (fRun (X n) n T Tryz.f5 ia io)
end F_law16_CountHolders
end Go.Proofs.YtemhlkdingkjnaaGreatDoor
