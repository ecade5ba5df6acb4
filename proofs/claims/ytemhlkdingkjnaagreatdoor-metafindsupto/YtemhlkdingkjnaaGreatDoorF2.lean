/-
  What the functions compute, and the plain laws.
-/
import Derived.Test.YtemhlkdingkjnaaGreatDoorF1
import Derived.Test.YtemhlkdingkjnaaGreatDoorF0
import Derived.Test.YtemhlkdingkjnaaGreatDoorRows
import Derived.Test.YtemhlkdingkjnaaGreatDoorCards
import Derived.Test.YtemhlkdingkjnaaGreatDoorTie
import Derived.JoinedCond
import Derived.ChangeCalls
import Derived.Lib.LaidIn
import Derived.Lib.LaidU8T
import Derived.Deep.DeepHandedRow
import Derived.ProofKit
import Derived.HandedShaped
import Derived.Shelf.Vars
import Derived.Laws.Cells
import Derived.Test.YtemhlkdingkjnaaGreatDoorVaSort
import Derived.Lib.Small
import Derived.Test.YtemhlkdingkjnaaGreatDoorVaSortCall
import Derived.Lib.Walk
import Derived.Sort.Grow
import Derived.StillTailTactics
import Derived.LoopN
import Derived.OwnWalk
import Derived.Test.YtemhlkdingkjnaaGreatDoorVaRange
import Derived.Test.YtemhlkdingkjnaaGreatDoorVaTab
import Derived.Maps.AppendAt
import Derived.Laws.OwnMore
import Derived.Great.BuildSlice
import Derived.Great.FillDense
set_option linter.unusedVariables false
set_option linter.unusedSimpArgs false
namespace Go.Proofs.YtemhlkdingkjnaaGreatDoor
open Go Go.Va Go.Proofs
theorem got_set:∀ (seen:Seen) (x y:Int),got (setS seen x) y=((y==x)||got seen y)
  | [],x,y=>by
    change (mGet (.int .u64) .bool [(x,true)] y).1=_
    unfold mGet
    change (if decide (y=x)=true then ((true:Bool),true) else mGet (.int .u64) .bool [] y).1=((y==x)||(mGet (.int .u64) .bool [] y).1)
    by_cases h:y=x
    · subst h;simp
    · rw[decide_eq_false h,show (y==x)=false from beq_eq_false_iff_ne.2 h];rfl
  | (k, v)::l,x,y=>by
    have ih:=got_set l x y
    unfold got setS at ih ⊢
    unfold mSet
    change (mGet (.int .u64) .bool (if decide (x=k)=true then (x,true)::l else (k,v)::mSet (.int .u64) .bool l x true) y).1=_
    by_cases hk:x=k
    · subst hk
      rw[decide_eq_true rfl,if_pos rfl]
      unfold mGet
      change (if decide (y=x)=true then ((true:Bool),true) else mGet (.int .u64) .bool l y).1=((y==x)||(if decide (y=x)=true then (v,true) else mGet (.int .u64) .bool l y).1)
      by_cases h:y=x
      · subst h;simp
      · rw[decide_eq_false h,show (y==x)=false from beq_eq_false_iff_ne.2 h];rfl
    · rw[decide_eq_false hk,if_neg (by decide)]
      unfold mGet
      change (if decide (y=k)=true then (v,true) else mGet (.int .u64) .bool (mSet (.int .u64) .bool l x true) y).1=((y==x)||(if decide (y=k)=true then (v,true) else mGet (.int .u64) .bool l y).1)
      by_cases h:y=k
      · subst h
        rw[decide_eq_true rfl,if_pos rfl,if_pos rfl,show (y==x)=false from beq_eq_false_iff_ne.2 (λe=>hk e.symm)];rfl
      · rw[decide_eq_false h,if_neg (by decide),if_neg (by decide)];exact ih
def freshL (hi:Int):List Int→List Int→Bool
  | _,[]=>true
  | pre,x::l=>!decide (x<1)&&(!decide (x≥hi)&&(!pre.any (λy=>y==x)&&freshL hi (pre++[x]) l))
theorem addIds_is (hi:Int):∀ (l:List Int) (seen:Seen) (pre:List Int),(∀ x,got seen x=pre.any λy=>y==x)→(yd0 hi seen l).isSome=freshL hi pre l
  | [],_,_,_=>rfl
  | x :: l, seen,pre,h=>by
    unfold yd0 freshL idOk
    rw[h x]
    cases decide (x<1)
    · cases decide (x≥hi)
      · cases pre.any (λy=>y==x)
        · change (yd0 hi (setS seen x) l).isSome=freshL hi (pre++[x]) l
          exact addIds_is hi l _ _ λz=>by
            rw[got_set,h z,List.any_append,Bool.or_comm]
            simp only[List.any_cons,List.any_nil,Bool.or_false]
            congr 1
            by_cases e:z=x
            · subst e;rfl
            · rw[show (z==x)=false from beq_eq_false_iff_ne.2 e,show (x==z)=false from beq_eq_false_iff_ne.2 (λq=>e q.symm)]
        · rfl
      · rfl
    · rfl
theorem addIds_fresh (hi:Int)(l:List Int):(yd0 hi [] l).isSome=freshL hi [] l:=addIds_is hi l [] [] λ_=>rfl
end Go.Proofs.YtemhlkdingkjnaaGreatDoor
namespace Go.Proofs.YtemhlkdingkjnaaGreatDoor
open Go Go.Va Go.Proofs
def ydw {α:Type}(lt:α→α→Bool):Option α→α→Bool
  | none,_=>true
  | some p,x=>lt p x
theorem chk_cons {α:Type}(lt:α→α→Bool)(o:Option α)(x:α)(l:List α):chk (λ_=>true) lt o (x::l)=(ydw lt o x&&chk (λ_=>true) lt (some x) l):=by
  cases o with
  | none=>simp only[chk,ydw]
  | some p=>simp only[chk,ydw,Bool.true_and]
def objsR (s:yaf):Option yad→List yad→Int→Bool
  | _,[],_=>true
  | prev,o::l,ver=>soundB o&&(ydw ydx prev o&&(decide (ver+lenO o≤256)&&(o.2.1.all (verS s)&&objsR s (some o) l (ver+lenO o))))
theorem objsR_is (s:yaf):∀ (l:List yad) (prev:Option yad) (ver:Int),ver≤256→objsR s prev l ver=(chk (λ_=>true) ydx prev l&&(l.all (okO s)&&decide (ver+sumI lenO l≤256)))
  | [],prev,ver,h=>by
    have:chk (λ_=>true) ydx prev []=true:=by cases prev<;>rfl
    rw[this]
    unfold objsR
    have e:sumI lenO []=0:=rfl
    rw[e,Int.add_zero,decide_eq_true h];rfl
  | o :: l,prev,ver,h=>by
    unfold objsR
    rw[chk_cons,List.all_cons,sumI_cons]
    unfold okO
    have h1:=lenO_nn o
    have h2:0≤sumI lenO l:=sumI_nn λo _=>lenO_nn o
    by_cases hv:ver+lenO o≤256
    · rw[objsR_is s l (some o) (ver+lenO o) hv,decide_eq_true hv,← Int.add_assoc]
      unfold okO
      cases soundB o<;>cases ydw ydx prev o<;>cases o.2.1.all (verS s)<;>cases chk (λ_=>true) ydx (some o) l<;>rfl
    · rw[decide_eq_false hv,decide_eq_false (show ¬ (ver+(lenO o+sumI lenO l)≤256) by omega)]
      simp
def upsR (s:yaf):Option yan→List yan→Bool
  | _,[]=>true
  | prev,u::l=>okU' s u&&(ydw ydT prev u&&upsR s (some u) l)
theorem upsR_is (s:yaf):∀ (l:List yan) (prev:Option yan),upsR s prev l=(chk (λ_=>true) ydT prev l&&l.all (okU' s))
  | [],prev=>by cases prev<;>rfl
  | u::l,prev=>by
    unfold upsR
    rw[chk_cons,List.all_cons,upsR_is s l (some u)]
    cases okU' s u<;>cases ydw ydT prev u<;>cases chk (λ_=>true) ydT (some u) l<;>rfl
def ownT (b:yab):Bool:=modeB b.2.1&&(rulesB b.2.2.1&&(grantsB b.2.2.2.1&&!decide ((b.2.2.2.2.2.1.length:Int)>4)))
def bksR (s:yaf):Option yab→List yab→Int→Bool
  | _,[],_=>true
  | prev,b::l,ver=>ydP b.1&&(ydw ydB prev b&&(ownT b&&(objsR s none b.2.2.2.2.1 ver&&(upsR s none b.2.2.2.2.2.1&&bksR s (some b) l (ver+sumI lenO b.2.2.2.2.1)))))
theorem lenB_is (b:yab):lenB b=sumI lenO b.2.2.2.2.1:=by
  have:∀ l:List yan,sumI (λ_=>(0:Int)) l=0:=λl=>by
    induction l with
    | nil=>rfl
    | cons x l ih=>rw[sumI_cons,ih];rfl
  unfold lenB;rw[this,Int.add_zero]
theorem bksR_is (s:yaf):∀ (l:List yab) (prev:Option yab) (ver:Int),ver≤256→bksR s prev l ver=(chk (λ_=>true) ydB prev l&&(l.all (okB s)&&decide (ver+sumI lenB l≤256)))
  | [],prev,ver,h=>by
    have:chk (λ_=>true) ydB prev []=true:=by cases prev<;>rfl
    rw[this]
    unfold bksR
    have e:sumI lenB []=0:=rfl
    rw[e,Int.add_zero,decide_eq_true h];rfl
  | b :: l,prev,ver,h=>by
    unfold bksR
    rw[chk_cons,List.all_cons,sumI_cons,lenB_is,objsR_is s _ none ver h,upsR_is]
    have h2:0≤sumI lenB l:=sumI_nn λb _=>lenB_nn b
    unfold okB okT ownT upB
    by_cases hv:ver+sumI lenO b.2.2.2.2.1≤256
    · rw[bksR_is s l (some b) _ hv,decide_eq_true hv,← Int.add_assoc]
      unfold okB okT upB
      generalize ydP b.1=x1
      generalize ydw ydB prev b=x2
      generalize modeB b.2.1=x3
      generalize rulesB b.2.2.1=x4
      generalize grantsB b.2.2.2.1=x5
      generalize decide ((b.2.2.2.2.2.1.length:Int)>4)=x6
      generalize chk (λ_=>true) ydx none b.2.2.2.2.1=x7
      generalize b.2.2.2.2.1.all (okO s)=x8
      generalize chk (λ_=>true) ydT none b.2.2.2.2.2.1=x9
      generalize b.2.2.2.2.2.1.all (okU' s)=x10
      generalize chk (λ_=>true) ydB (some b) l=x11
      generalize l.all _=x12
      generalize decide (ver+sumI lenO b.2.2.2.2.1+sumI lenB l≤256)=x13
      simp only[Bool.and_true]
      ac_rfl
    · rw[decide_eq_false hv,decide_eq_false (show ¬ (ver+(sumI lenO b.2.2.2.2.1+sumI lenB l)≤256) by omega)]
      simp
theorem stateB_is (s:yaf):ydE s=(topB s&&(!decide ((s.2.2.2.1.length:Int)>16)&&(bksR s none s.2.2.2.1 0&&freshL s.2.1 [] (idsS s)))):=by
  unfold ydE
  rw[bksR_is s _ none 0 (by decide),addIds_fresh,Int.zero_add]
  unfold upB
  cases topB s<;>cases decide ((s.2.2.2.1.length:Int)>16)<;>cases chk (λ_=>true) ydB none s.2.2.2.1<;>cases s.2.2.2.1.all (okB s)<;>cases freshL s.2.1 [] (idsS s)<;>cases decide (sumI lenB s.2.2.2.1≤256)<;>rfl
end Go.Proofs.YtemhlkdingkjnaaGreatDoor
namespace Go.Proofs.YtemhlkdingkjnaaGreatDoor
open Go Go.Va Go.Proofs
noncomputable section
namespace ybV
abbrev ia:List Ai:=[.dat (.slice yae)]
abbrev io:List (Nat×Oi):=[(2,.dat .bool)]
abbrev R:Type:=DOut ia io
def X (n:Nat):Ctx:=⟨⟨tab,[ybY.en n],0,[]⟩,46,bnOf 0 ia⟩
abbrev g1:List Si:=[.dat 0 (.slice yae),.dat 3 (.int .i64)]
abbrev g2:List Si:=[.dat 0 (.slice yae),.dat 3 (.int .i64)]
abbrev g3:List Si:=[]
def T:CT:=(.s .o (.s (.s .o (.b (.l g1 (.s .o (.s .o (.r g2 .o)))))) (.r g3 .o)))
def J1 (n:Nat)(m:Nat):(List (yak))×Int×Unit→Option R:=jL (X n) n T (yau Tryz.f88) (endK ia io) g1 [1,0,1,0] [] m
def J2 (n m1:Nat):(List (yak))×Int×Unit→Option R:=jR (X n) n T (yau Tryz.f88) (endK ia io) g2 [1,0,1,0,0,1,1] [m1]
def J3 (n:Nat):Unit→Option R:=jR (X n) n T (yau Tryz.f88) (endK ia io) g3 [1,1] []
def f (n:Nat)(l:List (yak)):Option R:=fRun (X n) n T Tryz.f88 ia io (l,())
theorem e0 (n:Nat)(l:List (yak)):f n l=J1 n n (l,0,()):=(yac _).trans (by kernel_rfl)
theorem e1 (n m:Nat)(l:List (yak))(i:Int):J1 n (m+1) (l,i,())=bIf ((hide (decide (i<((l.length:Nat):Int))))) (gIf (0≤i∧i<((l.length:Nat):Int)) (bnd (ybY.f n (List.getD l i.toNat (Va.dflt yae))) λu1=>bIf ((!u1.1)) (some (false,())) (bIf ((hide (decide (i>(0:Int))))) (gIf (0≤i∧i<((l.length:Nat):Int)) (gIf (0≤(IntKind.i64.wrap (i-(1:Int)))∧(IntKind.i64.wrap (i-(1:Int)))<((l.length:Nat):Int)) (bIf ((hide (decide (((List.getD l i.toNat (Va.dflt yae)).1)≤((List.getD l ((IntKind.i64.wrap (i-(1:Int))).toNat) (Va.dflt yae)).1))))) (some (false,())) (gIf (0≤i∧i<((l.length:Nat):Int)) (gIf (0≤(IntKind.i64.wrap (i-(1:Int)))∧(IntKind.i64.wrap (i-(1:Int)))<((l.length:Nat):Int)) (bIf ((hide (decide ((((((((List.getD l i.toNat (Va.dflt yae)).2).2).2).2).2).1)<(((((((List.getD l ((IntKind.i64.wrap (i-(1:Int))).toNat) (Va.dflt yae)).2).2).2).2).2).1))))) (some (false,())) (J2 n m (l,i,())))))))) (J2 n m (l,i,()))))) (J3 n (())):=(yac _).trans (by kernel_rfl)
theorem e2 (n m1:Nat)(l:List (yak))(i:Int):J2 n m1 (l,i,())=J1 n m1 (l,(IntKind.i64.wrap (i+(1:Int))),()):=(yac _).trans (by kernel_rfl)
theorem e3 (n:Nat):J3 n (())=some (true,()):=(yac _).trans (by kernel_rfl)
theorem ok (n:Nat):FnOk Tryz.prog 88 ia io (fRun (X n) n T Tryz.f88 ia io):=yaA mixed tabIs (yaj (yai (ybY.ok n)) (yas)) Tryz.func88 (by kernel_rfl) rfl
def en (n:Nat):Entry:=yaw 88 ia io (fRun (X n) n T Tryz.f88 ia io)
end ybV
namespace ydf
abbrev ia:List Ai:=[.dat yag]
abbrev io:List (Nat×Oi):=[(2,.dat .bool)]
abbrev R:Type:=DOut ia io
def X (n:Nat):Ctx:=⟨⟨tab,[ycS.en n,ybV.en n],0,[]⟩,17,bnOf 0 ia⟩
def T:CT := .o
def f (n:Nat)(o:yad):Option R:=fRun (X n) n T Tryz.f47 ia io (o,())
theorem e0 (n:Nat)(o:yad):f n o=bnd (ycS.f n o.1) λu1=>bIf (u1.1) (bIf ((hide (decide (((o.2.1.length:Nat):Int)≥(1:Int))))) (bnd (ybV.f n o.2.1) λu2=>some (u2.1,())) (some (false,()))) (some (false,())):=(yac _).trans (by kernel_rfl)
theorem ok (n:Nat):FnOk Tryz.prog 47 ia io (fRun (X n) n T Tryz.f47 ia io):=yaA mixed tabIs (yaj (yai (ycS.ok n)) (yaj (yai (ybV.ok n)) (yas))) Tryz.func47 (by kernel_rfl) rfl
def en (n:Nat):Entry:=yaw 47 ia io (fRun (X n) n T Tryz.f47 ia io)
end ydf
namespace ybK
abbrev ia:List Ai:=[.dat yal,.dat (.int .u64)]
abbrev io:List (Nat×Oi):=[(4,.dat .bool)]
abbrev R:Type:=DOut ia io
def X (n:Nat):Ctx:=⟨⟨tab,[ybd.en n,ycS.en n,ydo.en n],0,[]⟩,66,bnOf 0 ia⟩
abbrev g1:List Si:=[.dat 1 (.int .u64),.ref 2 2 yal,.box 2 (.d yal)]
abbrev g2:List Si:=[.dat 1 (.int .u64),.ref 2 2 yal,.dat 5 (.int .i64),.box 2 (.d yal)]
abbrev g3:List Si:=[.dat 1 (.int .u64),.ref 2 2 yal,.dat 5 (.int .i64),.box 2 (.d yal)]
abbrev g4:List Si:=[]
def T:CT:=(.s .o (.s .o (.r g1 (.s (.s .o (.b (.l g2 (.s .o (.s .o (.r g3 .o)))))) (.r g4 .o)))))
def J1 (n:Nat):Int×yan×Unit→Option R:=jR (X n) n T (yau Tryz.f48) (endK ia io) g1 [1,1] []
def J2 (n:Nat)(m:Nat):Int×Int×yan×Unit→Option R:=jL (X n) n T (yau Tryz.f48) (endK ia io) g2 [1,1,0,1,0] [] m
def J3 (n m2:Nat):Int×Int×yan×Unit→Option R:=jR (X n) n T (yau Tryz.f48) (endK ia io) g3 [1,1,0,1,0,0,1,1] [m2]
def J4 (n:Nat):Unit→Option R:=jR (X n) n T (yau Tryz.f48) (endK ia io) g4 [1,1,1] []
def f (n:Nat)(u:yan)(blobs:Int):Option R:=fRun (X n) n T Tryz.f48 ia io (u,blobs,())
theorem e0 (n:Nat)(u:yan)(blobs:Int):f n u blobs=bnd (ycS.f n u.2.1) λu1=>bIf ((!u1.1)) (some (false,())) (bnd (ybd.f n u.2.2.1) λu2=>bIf ((!u2.1)) (some (false,())) (bIf ((hide (decide (((u.2.2.2.1.length:Nat):Int)>(16:Int))))) (some (false,())) (J1 n (blobs,u,())))):=(yac _).trans (by kernel_rfl)
theorem e1 (n:Nat)(blobs:Int)(u:yan):J1 n (blobs,u,())=J2 n n (blobs,0,u,()):=(yac _).trans (by kernel_rfl)
theorem e2 (n m:Nat)(blobs:Int)(i:Int)(u:yan):J2 n (m+1) (blobs,i,u,())=bIf ((hide (decide (i<((u.2.2.2.1.length:Nat):Int))))) (gIf (0≤i∧i<((u.2.2.2.1.length:Nat):Int)) (bnd (ydo.f n (List.getD u.2.2.2.1 i.toNat (Va.dflt yaK))) λu1=>bIf ((!u1.1)) (some (false,())) (gIf (0≤i∧i<((u.2.2.2.1.length:Nat):Int)) (bIf ((hide (decide (((((List.getD u.2.2.2.1 i.toNat (Va.dflt yaK)).2).2).1)≥blobs)))) (some (false,())) (bIf ((hide (decide (i>(0:Int))))) (gIf (0≤(IntKind.i64.wrap (i-(1:Int)))∧(IntKind.i64.wrap (i-(1:Int)))<((u.2.2.2.1.length:Nat):Int)) (gIf (0≤i∧i<((u.2.2.2.1.length:Nat):Int)) (bIf ((hide (decide (((List.getD u.2.2.2.1 ((IntKind.i64.wrap (i-(1:Int))).toNat) (Va.dflt yaK)).1)≥((List.getD u.2.2.2.1 i.toNat (Va.dflt yaK)).1))))) (some (false,())) (J3 n m (blobs,i,u,()))))) (J3 n m (blobs,i,u,()))))))) (J4 n (())):=(yac _).trans (by kernel_rfl)
theorem e3 (n m2:Nat)(blobs:Int)(i:Int)(u:yan):J3 n m2 (blobs,i,u,())=J2 n m2 (blobs,(IntKind.i64.wrap (i+(1:Int))),u,()):=(yac _).trans (by kernel_rfl)
theorem e4 (n:Nat):J4 n (())=some (true,()):=(yac _).trans (by kernel_rfl)
theorem ok (n:Nat):FnOk Tryz.prog 48 ia io (fRun (X n) n T Tryz.f48 ia io):=yaA mixed tabIs (yaj (yai (ybd.ok n)) (yaj (yai (ycS.ok n)) (yaj (yai (ydo.ok n)) (yas)))) Tryz.func48 (by kernel_rfl) rfl
def en (n:Nat):Entry:=yaw 48 ia io (fRun (X n) n T Tryz.f48 ia io)
end ybK
namespace yay
abbrev ia:List Ai:=[.dat yah]
abbrev io:List (Nat×Oi):=[(2,.dat .bool)]
abbrev R:Type:=DOut ia io
def X (n:Nat):Ctx:=⟨⟨tab,[yby.en n,ybw.en n,ydd.en n,yb8.en n,ybM.en n,ydf.en n,ybK.en n],0,[]⟩,247,bnOf 0 ia⟩
abbrev g1:List Si:=[.ref 1 1 yah,.box 1 (.d yah)]
abbrev g2:List Si:=[.ref 1 1 yah,.val 3 (.r 200300 (.int .u64)),.dat 4 (.int .i64),.dat 5 (.int .i64),.box 1 (.d yah)]
abbrev g3:List Si:=[.ref 1 1 yah,.val 3 (.r 200300 (.int .u64)),.dat 4 (.int .i64),.dat 5 (.int .i64),.ref 6 6 yaa,.box 1 (.d yah),.box 6 (.d yaa)]
abbrev g4:List Si:=[.ref 1 1 yah,.val 3 (.r 200300 (.int .u64)),.dat 4 (.int .i64),.dat 5 (.int .i64),.ref 6 6 yaa,.dat 7 (.int .i64),.box 1 (.d yah),.box 6 (.d yaa)]
abbrev g5:List Si:=[.ref 1 1 yah,.val 3 (.r 200300 (.int .u64)),.dat 4 (.int .i64),.dat 5 (.int .i64),.ref 6 6 yaa,.dat 7 (.int .i64),.ref 8 8 yag,.box 1 (.d yah),.box 6 (.d yaa),.box 8 (.d yag)]
abbrev g6:List Si:=[.ref 1 1 yah,.val 3 (.r 200300 (.int .u64)),.dat 4 (.int .i64),.dat 5 (.int .i64),.ref 6 6 yaa,.dat 7 (.int .i64),.ref 8 8 yag,.dat 9 (.int .i64),.box 1 (.d yah),.box 6 (.d yaa),.box 8 (.d yag)]
abbrev g7:List Si:=[.ref 1 1 yah,.val 3 (.r 200300 (.int .u64)),.dat 4 (.int .i64),.dat 5 (.int .i64),.ref 6 6 yaa,.dat 7 (.int .i64),.ref 8 8 yag,.dat 9 (.int .i64),.ref 10 10 yae,.box 1 (.d yah),.box 6 (.d yaa),.box 8 (.d yag),.box 10 (.d yae)]
abbrev g8:List Si:=[.ref 1 1 yah,.val 3 (.r 200300 (.int .u64)),.dat 4 (.int .i64),.dat 5 (.int .i64),.ref 6 6 yaa,.dat 7 (.int .i64),.ref 8 8 yag,.dat 9 (.int .i64),.box 1 (.d yah),.box 6 (.d yaa),.box 8 (.d yag)]
abbrev g9:List Si:=[.ref 1 1 yah,.val 3 (.r 200300 (.int .u64)),.dat 4 (.int .i64),.dat 5 (.int .i64),.ref 6 6 yaa,.dat 7 (.int .i64),.box 1 (.d yah),.box 6 (.d yaa)]
abbrev g10:List Si:=[.ref 1 1 yah,.val 3 (.r 200300 (.int .u64)),.dat 4 (.int .i64),.dat 5 (.int .i64),.ref 6 6 yaa,.box 1 (.d yah),.box 6 (.d yaa)]
abbrev g11:List Si:=[.ref 1 1 yah,.val 3 (.r 200300 (.int .u64)),.dat 4 (.int .i64),.dat 5 (.int .i64),.ref 6 6 yaa,.dat 11 (.int .i64),.box 1 (.d yah),.box 6 (.d yaa)]
abbrev g12:List Si:=[.ref 1 1 yah,.val 3 (.r 200300 (.int .u64)),.dat 4 (.int .i64),.dat 5 (.int .i64),.ref 6 6 yaa,.dat 11 (.int .i64),.box 1 (.d yah),.box 6 (.d yaa)]
abbrev g13:List Si:=[.ref 1 1 yah,.val 3 (.r 200300 (.int .u64)),.dat 4 (.int .i64),.dat 5 (.int .i64),.ref 6 6 yaa,.dat 11 (.int .i64),.box 1 (.d yah),.box 6 (.d yaa)]
abbrev g14:List Si:=[.ref 1 1 yah,.val 3 (.r 200300 (.int .u64)),.dat 4 (.int .i64),.dat 5 (.int .i64),.box 1 (.d yah)]
abbrev g15:List Si:=[.ref 1 1 yah,.val 3 (.r 200300 (.int .u64)),.box 1 (.d yah)]
abbrev g16:List Si:=[.ref 1 1 yah,.val 3 (.r 200300 (.int .u64)),.dat 12 (.int .i64),.box 1 (.d yah)]
abbrev g17:List Si:=[.ref 1 1 yah,.val 3 (.r 200300 (.int .u64)),.dat 12 (.int .i64),.box 1 (.d yah)]
abbrev g18:List Si:=[.ref 1 1 yah,.val 3 (.r 200300 (.int .u64)),.dat 12 (.int .i64),.dat 13 (.int .i64),.box 1 (.d yah)]
abbrev g19:List Si:=[.ref 1 1 yah,.val 3 (.r 200300 (.int .u64)),.dat 12 (.int .i64),.box 1 (.d yah)]
abbrev g20:List Si:=[]
def T:CT:=(.s .o (.s .o (.r g1 (.s .o (.s .o (.s (.s .o (.b (.l g2 (.s .o (.s (.b (.s .o (.s .o (.r g3 (.s (.s .o (.b (.l g4 (.s .o (.s (.b (.s .o (.s .o (.r g5 (.s .o (.s .o (.s .o (.b (.l g6 (.s .o (.s (.b (.s .o (.s .o (.r g7 .o)))) (.r g8 .o)))))))))))) (.r g9 .o)))))) (.r g10 (.s .o (.b (.l g11 (.s .o (.s (.b (.s .o (.s .o (.r g12 .o)))) (.r g13 .o)))))))))))) (.r g14 .o)))))) (.r g15 (.s (.s .o (.b (.l g16 (.s .o (.s (.b (.s .o (.r g17 (.s .o (.b (.l g18 .o)))))) (.r g19 .o)))))) (.r g20 .o)))))))))
def J1 (n:Nat):yaf×Unit→Option R:=jR (X n) n T (yau Tryz.f13) (endK ia io) g1 [1,1] []
def J2 (n:Nat)(m:Nat):(List (Int))×Int×Int×yaf×Unit→Option R:=jL (X n) n T (yau Tryz.f13) (endK ia io) g2 [1,1,1,1,0,1,0] [] m
def J3 (n m2:Nat):(List (Int))×Int×Int×yaf×yab×Unit→Option R:=jR (X n) n T (yau Tryz.f13) (endK ia io) g3 [1,1,1,1,0,1,0,0,1,0,0,1,1] [m2]
def J4 (n m2:Nat)(m:Nat):(List (Int))×Int×Int×Int×yaf×yab×Unit→Option R:=jL (X n) n T (yau Tryz.f13) (endK ia io) g4 [1,1,1,1,0,1,0,0,1,0,0,1,1,0,1,0] [m2] m
def J5 (n m2 m4:Nat):(List (Int))×Int×Int×Int×yaf×yab×yad×Unit→Option R:=jR (X n) n T (yau Tryz.f13) (endK ia io) g5 [1,1,1,1,0,1,0,0,1,0,0,1,1,0,1,0,0,1,0,0,1,1] [m2,m4]
def J6 (n m2 m4:Nat)(m:Nat):(List (Int))×Int×Int×Int×Int×yaf×yab×yad×Unit→Option R:=jL (X n) n T (yau Tryz.f13) (endK ia io) g6 [1,1,1,1,0,1,0,0,1,0,0,1,1,0,1,0,0,1,0,0,1,1,1,1,1,0] [m2,m4] m
def J7 (n m2 m4 m6:Nat):(List (Int))×Int×Int×Int×Int×yaf×yab×yad×yak×Unit→Option R:=jR (X n) n T (yau Tryz.f13) (endK ia io) g7 [1,1,1,1,0,1,0,0,1,0,0,1,1,0,1,0,0,1,0,0,1,1,1,1,1,0,0,1,0,0,1,1] [m2,m4,m6]
def J8 (n m2 m4 m6:Nat):(List (Int))×Int×Int×Int×Int×yaf×yab×yad×Unit→Option R:=jR (X n) n T (yau Tryz.f13) (endK ia io) g8 [1,1,1,1,0,1,0,0,1,0,0,1,1,0,1,0,0,1,0,0,1,1,1,1,1,0,0,1,1] [m2,m4,m6]
def J9 (n m2 m4:Nat):(List (Int))×Int×Int×Int×yaf×yab×Unit→Option R:=jR (X n) n T (yau Tryz.f13) (endK ia io) g9 [1,1,1,1,0,1,0,0,1,0,0,1,1,0,1,0,0,1,1] [m2,m4]
def J10 (n m2:Nat):(List (Int))×Int×Int×yaf×yab×Unit→Option R:=jR (X n) n T (yau Tryz.f13) (endK ia io) g10 [1,1,1,1,0,1,0,0,1,0,0,1,1,1] [m2]
def J11 (n m2:Nat)(m:Nat):(List (Int))×Int×Int×Int×yaf×yab×Unit→Option R:=jL (X n) n T (yau Tryz.f13) (endK ia io) g11 [1,1,1,1,0,1,0,0,1,0,0,1,1,1,1,0] [m2] m
def J12 (n m2 m11:Nat):(List (Int))×Int×Int×Int×yaf×yab×Unit→Option R:=jR (X n) n T (yau Tryz.f13) (endK ia io) g12 [1,1,1,1,0,1,0,0,1,0,0,1,1,1,1,0,0,1,0,0,1,1] [m2,m11]
def J13 (n m2 m11:Nat):(List (Int))×Int×Int×Int×yaf×yab×Unit→Option R:=jR (X n) n T (yau Tryz.f13) (endK ia io) g13 [1,1,1,1,0,1,0,0,1,0,0,1,1,1,1,0,0,1,1] [m2,m11]
def J14 (n m2:Nat):(List (Int))×Int×Int×yaf×Unit→Option R:=jR (X n) n T (yau Tryz.f13) (endK ia io) g14 [1,1,1,1,0,1,0,0,1,1] [m2]
def J15 (n:Nat):(List (Int))×yaf×Unit→Option R:=jR (X n) n T (yau Tryz.f13) (endK ia io) g15 [1,1,1,1,1] []
def J16 (n:Nat)(m:Nat):(List (Int))×Int×yaf×Unit→Option R:=jL (X n) n T (yau Tryz.f13) (endK ia io) g16 [1,1,1,1,1,0,1,0] [] m
def J17 (n m16:Nat):(List (Int))×Int×yaf×Unit→Option R:=jR (X n) n T (yau Tryz.f13) (endK ia io) g17 [1,1,1,1,1,0,1,0,0,1,0,0,1] [m16]
def J18 (n m16:Nat)(m:Nat):(List (Int))×Int×Int×yaf×Unit→Option R:=jL (X n) n T (yau Tryz.f13) (endK ia io) g18 [1,1,1,1,1,0,1,0,0,1,0,0,1,1,0] [m16] m
def J19 (n m16:Nat):(List (Int))×Int×yaf×Unit→Option R:=jR (X n) n T (yau Tryz.f13) (endK ia io) g19 [1,1,1,1,1,0,1,0,0,1,1] [m16]
def J20 (n:Nat):Unit→Option R:=jR (X n) n T (yau Tryz.f13) (endK ia io) g20 [1,1,1,1,1,1] []
def f (n:Nat)(t:yaf):Option R:=fRun (X n) n T Tryz.f13 ia io (t,())
theorem e0 (n:Nat)(t:yaf):f n t=bnd (yby.f n t.1) λu1=>bIf ((hide (u1.1 != t.1))) (some (false,())) (bIf ((hide (decide (t.2.1<(1:Int))))) (some (false,())) (bIf ((hide (decide (t.2.1>(4611686018427387904:Int))))) (some (false,())) (bIf ((hide (decide (t.2.2.1<(1:Int))))) (some (false,())) (bIf ((hide (decide (t.2.2.1>(4611686018427387904:Int))))) (some (false,())) (bIf ((hide (decide (((t.2.2.2.1.length:Nat):Int)>(16:Int))))) (some (false,())) (J1 n (t,()))))))):=(yac _).trans (by kernel_rfl)
theorem e1 (n:Nat)(o:yaf):J1 n (o,())=J2 n n (([]:List (Int)),0,0,o,()):=(yac _).trans (by kernel_rfl)
theorem e2 (n m:Nat)(r:List (Int))(r':Int)(a:Int)(o:yaf):J2 n (m+1) (r,r',a,o,())=bIf ((hide (decide (a<((o.2.2.2.1.length:Nat):Int))))) (gIf (0≤a∧a<((o.2.2.2.1.length:Nat):Int)) (bnd (ybw.f n ((List.getD o.2.2.2.1 a.toNat (Va.dflt yaa)).1)) λu1=>bIf ((!u1.1)) (some (false,())) (bIf ((hide (decide (a>(0:Int))))) (gIf (0≤(IntKind.i64.wrap (a-(1:Int)))∧(IntKind.i64.wrap (a-(1:Int)))<((o.2.2.2.1.length:Nat):Int)) (bIf ((hide (!ltS ((List.getD o.2.2.2.1 ((IntKind.i64.wrap (a-(1:Int))).toNat) (Va.dflt yaa)).1) ((List.getD o.2.2.2.1 a.toNat (Va.dflt yaa)).1)))) (some (false,())) (bnd (ydd.f n (((List.getD o.2.2.2.1 a.toNat (Va.dflt yaa)).2).1)) λu2=>bIf ((!u2.1)) (some (false,())) (bnd (yb8.f n ((((List.getD o.2.2.2.1 a.toNat (Va.dflt yaa)).2).2).1)) λu3=>bIf ((!u3.1)) (some (false,())) (bnd (ybM.f n (((((List.getD o.2.2.2.1 a.toNat (Va.dflt yaa)).2).2).2).1)) λu4=>bIf ((!u4.1)) (some (false,())) (bIf ((hide (decide ((((((((((List.getD o.2.2.2.1 a.toNat (Va.dflt yaa)).2).2).2).2).2).1).length:Nat):Int)>(4:Int))))) (some (false,())) (J3 n m (r,r',a,o,(List.getD o.2.2.2.1 a.toNat (Va.dflt yaa)),())))))))) (bnd (ydd.f n (((List.getD o.2.2.2.1 a.toNat (Va.dflt yaa)).2).1)) λu5=>bIf ((!u5.1)) (some (false,())) (bnd (yb8.f n ((((List.getD o.2.2.2.1 a.toNat (Va.dflt yaa)).2).2).1)) λu6=>bIf ((!u6.1)) (some (false,())) (bnd (ybM.f n (((((List.getD o.2.2.2.1 a.toNat (Va.dflt yaa)).2).2).2).1)) λu7=>bIf ((!u7.1)) (some (false,())) (bIf ((hide (decide ((((((((((List.getD o.2.2.2.1 a.toNat (Va.dflt yaa)).2).2).2).2).2).1).length:Nat):Int)>(4:Int))))) (some (false,())) (J3 n m (r,r',a,o,(List.getD o.2.2.2.1 a.toNat (Va.dflt yaa)),()))))))))) (J15 n (r,o,())):=(yac _).trans (by kernel_rfl)
theorem e3 (n m2:Nat)(r:List (Int))(r':Int)(a:Int)(o:yaf)(y_:yab):J3 n m2 (r,r',a,o,y_,())=J4 n m2 n (r,r',a,0,o,y_,()):=(yac _).trans (by kernel_rfl)
theorem e4 (n m2 m:Nat)(r:List (Int))(r':Int)(a:Int)(t7:Int)(o:yaf)(y_:yab):J4 n m2 (m+1) (r,r',a,t7,o,y_,())=bIf ((hide (decide (t7<((y_.2.2.2.2.1.length:Nat):Int))))) (gIf (0≤t7∧t7<((y_.2.2.2.2.1.length:Nat):Int)) (bnd (ydf.f n (List.getD y_.2.2.2.2.1 t7.toNat (Va.dflt yag))) λu1=>bIf ((!u1.1)) (some (false,())) (bIf ((hide (decide (t7>(0:Int))))) (gIf (0≤(IntKind.i64.wrap (t7-(1:Int)))∧(IntKind.i64.wrap (t7-(1:Int)))<((y_.2.2.2.2.1.length:Nat):Int)) (bIf ((hide (!ltS ((List.getD y_.2.2.2.2.1 ((IntKind.i64.wrap (t7-(1:Int))).toNat) (Va.dflt yag)).1) ((List.getD y_.2.2.2.2.1 t7.toNat (Va.dflt yag)).1)))) (some (false,())) (J5 n m2 m (r,r',a,t7,o,y_,(List.getD y_.2.2.2.2.1 t7.toNat (Va.dflt yag)),())))) (J5 n m2 m (r,r',a,t7,o,y_,(List.getD y_.2.2.2.2.1 t7.toNat (Va.dflt yag)),()))))) (J10 n m2 (r,r',a,o,y_,())):=(yac _).trans (by kernel_rfl)
theorem e5 (n m2 m4:Nat)(r:List (Int))(r':Int)(a:Int)(t7:Int)(o:yaf)(y_:yab)(b8:yad):J5 n m2 m4 (r,r',a,t7,o,y_,b8,())=bIf ((hide (decide ((IntKind.i64.wrap (r'+((b8.2.1.length:Nat):Int)))>(256:Int))))) (some (false,())) (J6 n m2 m4 n (r,(IntKind.i64.wrap (r'+((b8.2.1.length:Nat):Int))),a,t7,0,o,y_,b8,())):=(yac _).trans (by kernel_rfl)
theorem e6 (n m2 m4 m:Nat)(r:List (Int))(r':Int)(a:Int)(t7:Int)(t9:Int)(o:yaf)(y_:yab)(b8:yad):J6 n m2 m4 (m+1) (r,r',a,t7,t9,o,y_,b8,())=bIf ((hide (decide (t9<((b8.2.1.length:Nat):Int))))) (gIf (0≤t9∧t9<((b8.2.1.length:Nat):Int)) (bIf ((hide (decide ((((((((List.getD b8.2.1 t9.toNat (Va.dflt yae)).2).2).2).2).2).1)>o.1)))) (some (false,())) (bIf ((hide (decide ((((((List.getD b8.2.1 t9.toNat (Va.dflt yae)).2).2).2).1)≥o.2.2.1)))) (some (false,())) (J7 n m2 m4 m (r,r',a,t7,t9,o,y_,b8,(List.getD b8.2.1 t9.toNat (Va.dflt yae)),()))))) (J9 n m2 m4 (r,r',a,t7,o,y_,())):=(yac _).trans (by kernel_rfl)
theorem e7 (n m2 m4 m6:Nat)(r:List (Int))(r':Int)(a:Int)(t7:Int)(t9:Int)(o:yaf)(y_:yab)(b8:yad)(b10:yak):J7 n m2 m4 m6 (r,r',a,t7,t9,o,y_,b8,b10,())=gIf ((r.length+1)*8≤70368744177664) (J8 n m2 m4 m6 ((r++([b10.1]:List (Int))),r',a,t7,t9,o,y_,b8,())):=(yac _).trans (by kernel_rfl)
theorem e8 (n m2 m4 m6:Nat)(r:List (Int))(r':Int)(a:Int)(t7:Int)(t9:Int)(o:yaf)(y_:yab)(b8:yad):J8 n m2 m4 m6 (r,r',a,t7,t9,o,y_,b8,())=J6 n m2 m4 m6 (r,r',a,t7,(IntKind.i64.wrap (t9+(1:Int))),o,y_,b8,()):=(yac _).trans (by kernel_rfl)
theorem e9 (n m2 m4:Nat)(r:List (Int))(r':Int)(a:Int)(t7:Int)(o:yaf)(y_:yab):J9 n m2 m4 (r,r',a,t7,o,y_,())=J4 n m2 m4 (r,r',a,(IntKind.i64.wrap (t7+(1:Int))),o,y_,()):=(yac _).trans (by kernel_rfl)
theorem e10 (n m2:Nat)(r:List (Int))(r':Int)(a:Int)(o:yaf)(y_:yab):J10 n m2 (r,r',a,o,y_,())=J11 n m2 n (r,r',a,0,o,y_,()):=(yac _).trans (by kernel_rfl)
theorem e11 (n m2 m:Nat)(r:List (Int))(r':Int)(a:Int)(t11:Int)(o:yaf)(y_:yab):J11 n m2 (m+1) (r,r',a,t11,o,y_,())=bIf ((hide (decide (t11<((y_.2.2.2.2.2.1.length:Nat):Int))))) (gIf (0≤t11∧t11<((y_.2.2.2.2.2.1.length:Nat):Int)) (bnd (ybK.f n (List.getD y_.2.2.2.2.2.1 t11.toNat (Va.dflt yal)) o.2.2.1) λu1=>bIf ((!u1.1)) (some (false,())) (bIf ((hide (decide (t11>(0:Int))))) (gIf (0≤(IntKind.i64.wrap (t11-(1:Int)))∧(IntKind.i64.wrap (t11-(1:Int)))<((y_.2.2.2.2.2.1.length:Nat):Int)) (gIf (0≤t11∧t11<((y_.2.2.2.2.2.1.length:Nat):Int)) (bIf ((hide (decide (((List.getD y_.2.2.2.2.2.1 ((IntKind.i64.wrap (t11-(1:Int))).toNat) (Va.dflt yal)).1)≥((List.getD y_.2.2.2.2.2.1 t11.toNat (Va.dflt yal)).1))))) (some (false,())) (J12 n m2 m (r,r',a,t11,o,y_,()))))) (J12 n m2 m (r,r',a,t11,o,y_,()))))) (J14 n m2 (r,r',a,o,())):=(yac _).trans (by kernel_rfl)
theorem e12 (n m2 m11:Nat)(r:List (Int))(r':Int)(a:Int)(t11:Int)(o:yaf)(y_:yab):J12 n m2 m11 (r,r',a,t11,o,y_,())=gIf (0≤t11∧t11<((y_.2.2.2.2.2.1.length:Nat):Int)) (gIf ((r.length+1)*8≤70368744177664) (J13 n m2 m11 ((r++([(List.getD y_.2.2.2.2.2.1 t11.toNat (Va.dflt yal)).1]:List (Int))),r',a,t11,o,y_,()))):=(yac _).trans (by kernel_rfl)
theorem e13 (n m2 m11:Nat)(r:List (Int))(r':Int)(a:Int)(t11:Int)(o:yaf)(y_:yab):J13 n m2 m11 (r,r',a,t11,o,y_,())=J11 n m2 m11 (r,r',a,(IntKind.i64.wrap (t11+(1:Int))),o,y_,()):=(yac _).trans (by kernel_rfl)
theorem e14 (n m2:Nat)(r:List (Int))(r':Int)(a:Int)(o:yaf):J14 n m2 (r,r',a,o,())=J2 n m2 (r,r',(IntKind.i64.wrap (a+(1:Int))),o,()):=(yac _).trans (by kernel_rfl)
theorem e15 (n:Nat)(r:List (Int))(o:yaf):J15 n (r,o,())=J16 n n (r,0,o,()):=(yac _).trans (by kernel_rfl)
theorem e16 (n m:Nat)(r:List (Int))(t12:Int)(o:yaf):J16 n (m+1) (r,t12,o,())=bIf ((hide (decide (t12<((r.length:Nat):Int))))) (gIf (0≤t12∧t12<((r.length:Nat):Int)) (bIf ((hide (decide ((List.getD r (0+t12.toNat) 0)<(1:Int))))) (some (false,())) (gIf (0≤t12∧t12<((r.length:Nat):Int)) (bIf ((hide (decide ((List.getD r (0+t12.toNat) 0)≥o.2.1)))) (some (false,())) (J17 n m (r,t12,o,())))))) (J20 n (())):=(yac _).trans (by kernel_rfl)
theorem e17 (n m16:Nat)(r:List (Int))(t12:Int)(o:yaf):J17 n m16 (r,t12,o,())=J18 n m16 n (r,t12,0,o,()):=(yac _).trans (by kernel_rfl)
theorem e18 (n m16 m:Nat)(r:List (Int))(t12:Int)(t13:Int)(o:yaf):J18 n m16 (m+1) (r,t12,t13,o,())=bIf ((hide (decide (t13<t12)))) (gIf (0≤t13∧t13<((r.length:Nat):Int)) (gIf (0≤t12∧t12<((r.length:Nat):Int)) (bIf ((hide ((List.getD r (0+t13.toNat) 0)==(List.getD r (0+t12.toNat) 0)))) (some (false,())) (J18 n m16 m (r,t12,(IntKind.i64.wrap (t13+(1:Int))),o,()))))) (J19 n m16 (r,t12,o,())):=(yac _).trans (by kernel_rfl)
theorem e19 (n m16:Nat)(r:List (Int))(t12:Int)(o:yaf):J19 n m16 (r,t12,o,())=J16 n m16 (r,(IntKind.i64.wrap (t12+(1:Int))),o,()):=(yac _).trans (by kernel_rfl)
theorem e20 (n:Nat):J20 n (())=some (true,()):=(yac _).trans (by kernel_rfl)
theorem ok (n:Nat):FnOk Tryz.prog 13 ia io (fRun (X n) n T Tryz.f13 ia io):=yaA mixed tabIs (yaj (yai (yby.ok n)) (yaj (yai (ybw.ok n)) (yaj (yai (ydd.ok n)) (yaj (yai (yb8.ok n)) (yaj (yai (ybM.ok n)) (yaj (yai (ydf.ok n)) (yaj (yai (ybK.ok n)) (yas)))))))) Tryz.func13 (by kernel_rfl) rfl
def en (n:Nat):Entry:=yaw 13 ia io (fRun (X n) n T Tryz.f13 ia io)
end yay
end
end Go.Proofs.YtemhlkdingkjnaaGreatDoor
namespace Go.Proofs.YtemhlkdingkjnaaGreatDoor
open Go Go.Va Go.Proofs
theorem rising13_J (n:Nat) (hn:n≤536870912) (h5:40≤n) (l:List Ver) (hl:LB n l):∀ (m k:Nat),k≤l.length→l.length-k<m →
    ybV.J1 n m (l,(k:Int),())=some (chk verB behB (prev l k) (l.drop k),())
  | 0,k,_,h=>by omega
  | m + 1,k,hk,h=>by
    have hl1:=hl.len
    rw[ybV.e1]
    simp only[yaS]
    by_cases hlt:k<l.length
    · have ih:=rising13_J n hn h5 l hl m (k+1) (by omega) (by omega)
      have hg:(0≤(k:Int)∧(k:Int)<((l.length:Nat):Int)):=⟨by omega,by omega⟩
      have e2:ybV.J2 n m (l,(k:Int),())=some (chk verB behB (prev l (k+1)) (l.drop (k+1)),()):=by
        rw[ybV.e2,ya7 k (by omega),ih]
      rw[decide_eq_true (show (k:Int)<((l.length:Nat):Int) by omega),yap,yaq hg,Int.toNat_natCast,ver19 hn h5 (hl.all _ (ybr hlt)),bnd_some,yaq hg,e2]
      by_cases h0:k=0
      · subst h0
        rw[chk_zero (d:=Va.dflt yae) (by omega),decide_eq_false (show ¬ (((0:Nat):Int)>0) by simp),yam]
        cases verB (l.getD 0 (Va.dflt yae))<;>rfl
      · have hp:0≤(k:Int)-1∧(k:Int)-1<((l.length:Nat):Int):=⟨by omega,by omega⟩
        rw[chk_succ (d:=Va.dflt yae) (by omega) hlt,decide_eq_true (show (k:Int)>0 by omega),yap,ybn (x:=(k:Int)-1) (by omega),yaq hp,yaq hp,yaq hg,show ((k:Int)-1).toNat=k-1 by omega]
        have hbeh:behB (l.getD (k-1) (Va.dflt yae)) (l.getD k (Va.dflt yae))=(!decide ((l.getD k (Va.dflt yae)).1≤(l.getD (k-1) (Va.dflt yae)).1)&&!decide (made (l.getD k (Va.dflt yae))<made (l.getD (k-1) (Va.dflt yae)))):=by
          unfold behB
          congr 1
          · exact z_gt _ _
          · exact z_ge2 _ _
        rw[hbeh]
        change bIf (!verB (l.getD k (Va.dflt yae))) _ (bIf (decide ((l.getD k (Va.dflt yae)).1≤(l.getD (k-1) (Va.dflt yae)).1)) _ (bIf (decide (made (l.getD k (Va.dflt yae))<made (l.getD (k-1) (Va.dflt yae)))) _ _))=_
        cases verB (l.getD k (Va.dflt yae))<;>cases decide ((l.getD k (Va.dflt yae)).1≤(l.getD (k-1) (Va.dflt yae)).1)<;>cases decide (made (l.getD k (Va.dflt yae))<made (l.getD (k-1) (Va.dflt yae)))<;>rfl
    · rw[decide_eq_false (show ¬ (k:Int)<((l.length:Nat):Int) by omega),yam,ybV.e3,chk_end (by omega)]
theorem ref13_Sound {n:Nat}(hn:n≤536870912)(h5:40≤n){o:yad}(ho:OB n o):ydf.f n o=some (soundB o,()):=by
  have hl:=ho.list.len
  have hr:ybV.f n o.2.1=some (risB o.2.1,()):=by
    rw[ybV.e0]
    exact rising13_J n hn h5 _ ho.list n 0 (by omega) (by omega)
  rw[ydf.e0,key30 ho.key hn (by omega),hr]
  simp only[yaS,bnd_some]
  unfold soundB
  rw[show decide (((o.2.1.length:Nat):Int)≥1)=decide (1≤o.2.1.length) from decide_eq_decide.2 (by omega)]
  cases keyB o.1<;>cases decide (1≤o.2.1.length)<;>rfl
theorem prev_succ {α:Type}{l:List α}{k:Nat}(d:α)(h:k<l.length):prev l (k+1)=some (l.getD k d):=by
  unfold prev
  rw[if_neg (by omega),Nat.add_sub_cancel,List.getD_eq_getElem?_getD,List.getElem?_eq_getElem h];rfl
theorem prev_pos {α:Type}{l:List α}{k:Nat}(d:α)(h0:0<k)(h:k<l.length):prev l k=some (l.getD (k-1) d):=by
  obtain⟨j,rfl⟩:∃ j,k=j+1:=⟨k-1,by omega⟩
  exact prev_succ d (by omega)
theorem ge_not (x y:Int):decide (x≥y)=!decide (x<y):=by
  rw[← decide_not];exact decide_eq_decide.2 (by omega)
def partsR (blobs:Int):Option yaJ→List yaJ→Bool
  | _,[]=>true
  | prev,p::l=>partB p&&(!decide (p.2.2.1≥blobs)&&(ydw ltPart prev p&&partsR blobs (some p) l))
theorem partsR_cons (blobs:Int)(prev:Option yaJ)(p:yaJ)(l:List yaJ):partsR blobs prev (p::l)=(partB p&&(!decide (p.2.2.1≥blobs)&&(ydw ltPart prev p&&partsR blobs (some p) l))):=rfl
theorem freshL_cons (hi:Int)(pre:List Int)(x:Int)(l:List Int):freshL hi pre (x::l)=(!decide (x<1)&&(!decide (x≥hi)&&(!pre.any (λy=>y==x)&&freshL hi (pre++[x]) l))):=rfl
theorem objsR_cons (s:yaf)(prev:Option yad)(o:yad)(l:List yad)(ver:Int):objsR s prev (o::l) ver=(soundB o&&(ydw ydx prev o&&(decide (ver+lenO o≤256)&&(o.2.1.all (verS s)&&objsR s (some o) l (ver+lenO o))))):=rfl
theorem upsR_cons (s:yaf)(prev:Option yan)(u:yan)(l:List yan):upsR s prev (u::l)=(okU' s u&&(ydw ydT prev u&&upsR s (some u) l)):=rfl
theorem bksR_cons (s:yaf)(prev:Option yab)(b:yab)(l:List yab)(ver:Int):bksR s prev (b::l) ver=(ydP b.1&&(ydw ydB prev b&&(ownT b&&(objsR s none b.2.2.2.2.1 ver&&(upsR s none b.2.2.2.2.2.1&&bksR s (some b) l (ver+sumI lenO b.2.2.2.2.1)))))):=rfl
theorem partsR_is (s:yaf):∀ (l:List yaJ) (prev:Option yaJ),partsR s.2.2.1 prev l=(chk (λ_=>true) ltPart prev l&&l.all (okP' s))
  | [],prev=>by cases prev<;>rfl
  | p::l,prev=>by
    unfold partsR
    rw[chk_cons,List.all_cons,partsR_is s l (some p)]
    unfold okP'
    cases partB p<;>cases decide (p.2.2.1≥s.2.2.1)<;>cases ydw ltPart prev p<;>cases chk (λ_=>true) ltPart (some p) l<;>rfl
theorem parts_J {n:Nat} (u:yan) (blobs:Int) (hl:u.2.2.2.1.length<536870912):∀ (m k:Nat),k≤u.2.2.2.1.length→u.2.2.2.1.length-k<m →
    ybK.J2 n m (blobs,(k:Int),u,())=some (partsR blobs (prev u.2.2.2.1 k) (u.2.2.2.1.drop k),())
  | 0,k,_,h=>by omega
  | m + 1,k,hk,h=>by
    rw[ybK.e2]
    simp only[yaS]
    by_cases hlt:k<u.2.2.2.1.length
    · have hg:(0≤(k:Int)∧(k:Int)<((u.2.2.2.1.length:Nat):Int)):=⟨by omega,by omega⟩
      have e3:ybK.J3 n m (blobs,(k:Int),u,())=some (partsR blobs (some (u.2.2.2.1.getD k (Va.dflt yaK))) (u.2.2.2.1.drop (k+1)),()):=by
        rw[ybK.e3,ya7 k (by omega),parts_J u blobs hl m (k+1) (by omega) (by omega),prev_succ (Va.dflt yaK) hlt]
      rw[decide_eq_true (show (k:Int)<((u.2.2.2.1.length:Nat):Int) by omega),yap,yaq hg,Int.toNat_natCast,ref14_Part,bnd_some,yaq hg,yaq hg,e3,ycA (Va.dflt yaK) hlt,partsR_cons]
      by_cases h0:k=0
      · subst h0
        rw[decide_eq_false (show ¬ (((0:Nat):Int)>0) by simp),yam]
        change bIf _ _ (bIf _ _ _)=some (partB _&&(!decide _&&(true&&_)),())
        generalize u.2.2.2.1.getD 0 (Va.dflt yaK)=p
        cases partB p<;>cases decide (p.2.2.1≥blobs)<;>rfl
      · rw[decide_eq_true (show (k:Int)>0 by omega),yap,ybn (x:=(k:Int)-1) (by omega),yaq ⟨by omega,by omega⟩,show ((k:Int)-1).toNat=k-1 by omega,prev_pos (Va.dflt yaK) (by omega) hlt,ge_not (u.2.2.2.1.getD (k-1) (Va.dflt yaK)).1 (u.2.2.2.1.getD k (Va.dflt yaK)).1]
        unfold ydw ltPart
        generalize u.2.2.2.1.getD k (Va.dflt yaK)=p
        generalize u.2.2.2.1.getD (k-1) (Va.dflt yaK)=p'
        dsimp only
        cases partB p<;>cases decide (p.2.2.1≥blobs)<;>cases decide (p'.1<p.1)<;>rfl
    · rw[decide_eq_false (show ¬ (k:Int)<((u.2.2.2.1.length:Nat):Int) by omega),yam,ybK.e4,List.drop_eq_nil_of_le (by omega)]
      cases prev u.2.2.2.1 k<;>rfl
theorem ref15_upload {n:Nat}(hn:n≤536870912)(h5:40≤n){s:yaf}{u:yan}(hu:UpS n u):ybK.f n u s.2.2.1=some (okU' s u,()):=by
  have hp:=hu.ps
  have hj:=parts_J (n:=n) u s.2.2.1 (by omega) n 0 (by omega) (by omega)
  rw[show ((0:Nat):Int)=0 from rfl,List.drop_zero,show prev u.2.2.2.1 0=none from rfl,partsR_is]at hj
  rw[ybK.e0,key30 hu.key hn (by omega),tags38 hn (by omega) hu.tg,ybK.e1,hj]
  simp only[yaS,bnd_some]
  unfold okU' upB
  change bIf (!keyB u.2.1) _ (bIf (!tagsB u.2.2.1) _ (bIf (decide (((u.2.2.2.1.length:Nat):Int)>16)) _ (some (chk (λ_=>true) ltPart none u.2.2.2.1&&_,()))))=_
  cases keyB u.2.1<;>cases tagsB u.2.2.1<;>cases decide (((u.2.2.2.1.length:Nat):Int)>16)<;>rfl
theorem ids_in {n:Nat} (r:List Int) (o:yaf) (q:Nat) (k:Nat) (hk:k<r.length) (hl:r.length<1099511627776):∀ (m j:Nat),j≤k→k-j<m →
    yay.J18 n q m (r,(k:Int),(j:Int),o,())=bIf (((r.take k).drop j).any λy=>y==r.getD k 0) (some (false,())) (yay.J19 n q (r,(k:Int),o,()))
  | 0,j,_,h=>by omega
  | m + 1,j,hj,h=>by
    rw[yay.e18]
    simp only[yaS]
    by_cases hlt:j<k
    · have hlen:(r.take k).length=k:=by rw[List.length_take];omega
      rw[decide_eq_true (show (j:Int)<(k:Int) by omega),yap,yaq ⟨by omega,by omega⟩,yaq ⟨by omega,by omega⟩,Int.toNat_natCast,Int.toNat_natCast,Nat.zero_add,Nat.zero_add,ya7 j (by omega),ids_in r o q k hk hl m (j+1) (by omega) (by omega),
        ycA (0:Int) (show j<(r.take k).length by omega),List.any_cons]
      have e:(r.take k).getD j 0=r.getD j 0:=by
        rw[List.getD_eq_getElem?_getD,List.getD_eq_getElem?_getD,List.getElem?_take,if_pos hlt]
      rw[e]
      cases (r.getD j 0==r.getD k 0)<;>rfl
    · have:j=k:=by omega
      subst this
      rw[decide_eq_false (show ¬ (j:Int)<(j:Int) by omega),yam,List.drop_eq_nil_of_le (by rw[List.length_take];omega)];rfl
theorem ids_J {n:Nat} (r:List Int) (o:yaf) (hn:r.length<n) (hl:r.length<1099511627776):∀ (m k:Nat),k≤r.length→r.length-k<m →
    yay.J16 n m (r,(k:Int),o,())=some (freshL o.2.1 (r.take k) (r.drop k),())
  | 0,k,_,h=>by omega
  | m + 1,k,hk,h=>by
    rw[yay.e16]
    simp only[yaS]
    by_cases hlt:k<r.length
    · have hg:(0≤(k:Int)∧(k:Int)<((r.length:Nat):Int)):=⟨by omega,by omega⟩
      have hi:=ids_in (n:=n) r o m k hlt hl n 0 (by omega) (by omega)
      rw[show ((0:Nat):Int)=0 from rfl,List.drop_zero,yay.e19,ya7 k (by omega),ids_J r o hn hl m (k+1) (by omega) (by omega)]at hi
      rw[decide_eq_true (show (k:Int)<((r.length:Nat):Int) by omega),yap,yaq hg,yaq hg,Int.toNat_natCast,Nat.zero_add,yay.e17,hi,ycA (0:Int) hlt]
      have e:r.take (k+1)=r.take k++[r.getD k 0]:=by
        rw[List.take_add_one,List.getD_eq_getElem?_getD,List.getElem?_eq_getElem hlt];rfl
      rw[e,freshL_cons]
      generalize r.getD k 0=x
      generalize freshL o.2.1 (r.take k++[x]) (r.drop (k+1))=z
      cases decide (x<1)<;>cases decide (x≥o.2.1)<;>cases (r.take k).any (λy=>y==x)<;>rfl
    · rw[decide_eq_false (show ¬ (k:Int)<((r.length:Nat):Int) by omega),yam,yay.e20,List.drop_eq_nil_of_le (by omega)];rfl
theorem ids_all {n:Nat}(r:List Int)(o:yaf)(hn:r.length<n)(hl:r.length<1099511627776):yay.J15 n (r,o,())=some (freshL o.2.1 [] r,()):=by
  rw[yay.e15]
  have:=ids_J (n:=n) r o hn hl n 0 (by omega) (by omega)
  rw[show ((0:Nat):Int)=0 from rfl,List.drop_zero,List.take_zero]at this
  exact this
abbrev Many:Nat:=1099511627776
theorem bIf_andF {α:Type}(a b:Bool)(x y:α):bIf (a&&b) x y=bIf a (bIf b x y) y:=by cases a<;>rfl
theorem vers_J {n:Nat}(ver a:Int)(t7:Int)(o:yaf)(y:yab)(b8:yad)(p q:Nat)(hl:b8.2.1.length<536870912):∀ (m k:Nat) (r:List Int),k≤b8.2.1.length→b8.2.1.length-k<m→r.length+(b8.2.1.drop k).length<Many →
    yay.J6 n p q m (r,ver,a,t7,(k:Int),o,y,b8,())=bIf ((b8.2.1.drop k).all (verS o)) (yay.J9 n p q (r++(b8.2.1.drop k).map (λv=>v.1),ver,a,t7,o,y,())) (some (false,()))
  | 0,k,_,_,h,_=>by omega
  | m + 1,k,r,hk,h,hr=>by
    rw[yay.e6]
    simp only[yaS]
    by_cases hlt:k<b8.2.1.length
    · rw[ycA (Va.dflt yae) hlt]at hr ⊢
      rw[List.length_cons]at hr
      have hr:r.length+((b8.2.1.drop (k+1)).length+1)<1099511627776:=hr
      rw[decide_eq_true (show (k:Int)<((b8.2.1.length:Nat):Int) by omega),yap,yaq ⟨by omega,by omega⟩,Int.toNat_natCast]
      generalize b8.2.1.getD k (Va.dflt yae)=v
      rw[yay.e7,yaq (by omega),yay.e8,ya7 k (by omega)]
      have ih:=vers_J (n:=n) ver a t7 o y b8 p q hl m (k+1) (r++[v.1]) (by omega) (by omega) (by rw[List.length_append,List.length_singleton];show _<1099511627776;omega)
      rw[ih,List.all_cons,List.map_cons,List.append_assoc,List.singleton_append]
      change bIf (decide (made v>o.1)) _ (bIf (decide (blob v≥o.2.2.1)) _ _)=_
      unfold verS
      cases decide (made v>o.1)<;>cases decide (blob v≥o.2.2.1)<;>rfl
    · rw[decide_eq_false (show ¬ (k:Int)<((b8.2.1.length:Nat):Int) by omega),yam,List.drop_eq_nil_of_le (by omega),List.map_nil,List.append_nil];rfl
theorem objs_J {n:Nat} (hn:n≤536870912) (h5:40≤n) (a:Int) (o:yaf) (y:yab) (p:Nat) (hl:y.2.2.2.2.1.length<536870912) (hob:∀ x∈y.2.2.2.2.1,OB n x):∀ (m k:Nat) (r:List Int) (ver:Int),k≤y.2.2.2.2.1.length→y.2.2.2.2.1.length-k<m→r.length+((y.2.2.2.2.1.drop k).flatMap idsO).length<Many→0≤ver→ver≤256 →
    yay.J4 n p m (r,ver,a,(k:Int),o,y,())=bIf (objsR o (prev y.2.2.2.2.1 k) (y.2.2.2.2.1.drop k) ver) (yay.J10 n p (r++(y.2.2.2.2.1.drop k).flatMap idsO,ver+sumI lenO (y.2.2.2.2.1.drop k),a,o,y,())) (some (false,()))
  | 0,k,_,_,_,h,_,_,_=>by omega
  | m + 1,k,r,ver,hk,h,hr,hv0,hv1=>by
    rw[yay.e4]
    simp only[yaS]
    by_cases hlt:k<y.2.2.2.2.1.length
    · have hx:=hob _ (ybr (d:=Va.dflt yag) hlt)
      rw[ycA (Va.dflt yag) hlt]at hr ⊢
      rw[List.flatMap_cons,List.length_append]at hr
      rw[List.flatMap_cons,sumI_cons]
      have hpr:ydw ydx (prev y.2.2.2.2.1 k) (y.2.2.2.2.1.getD k (Va.dflt yag))=(decide (k=0)||ltS (y.2.2.2.2.1.getD (k-1) (Va.dflt yag)).1 (y.2.2.2.2.1.getD k (Va.dflt yag)).1):=by
        by_cases h0:k=0
        · subst h0;rfl
        · rw[prev_pos (Va.dflt yag) (by omega) hlt,decide_eq_false h0];rfl
      have hps:=prev_succ (Va.dflt yag) hlt
      rw[objsR_cons,hpr]
      rw[decide_eq_true (show (k:Int)<((y.2.2.2.2.1.length:Nat):Int) by omega),yap,yaq ⟨by omega,by omega⟩,Int.toNat_natCast,ref13_Sound hn h5 hx,bnd_some]
      have ih:=λr ver=>objs_J hn h5 a o y p hl hob m (k+1) r ver (by omega) (by omega)
      rw[hps]at ih
      generalize y.2.2.2.2.1.getD k (Va.dflt yag)=x at hx hr ih ⊢
      have hxl:=hx.list.len
      have e5:yay.J5 n p m (r,ver,a,(k:Int),o,y,x,())=bIf (decide (ver+lenO x≤256)&&(x.2.1.all (verS o)&&objsR o (some x) (y.2.2.2.2.1.drop (k+1)) (ver+lenO x))) (yay.J10 n p (r++(idsO x++(y.2.2.2.2.1.drop (k+1)).flatMap idsO),ver+(lenO x+sumI lenO (y.2.2.2.2.1.drop (k+1))),a,o,y,())) (some (false,())):=by
        have hlx:lenO x=((x.2.1.length:Nat):Int):=rfl
        have hid:(idsO x).length=x.2.1.length:=by unfold idsO;rw[List.length_map]
        rw[yay.e5,yaS,ybn (by omega),← hlx]
        by_cases h2:ver+lenO x≤256
        · rw[decide_eq_false (show ¬ (ver+lenO x>256) by omega),yam,decide_eq_true h2,Bool.true_and]
          have:=vers_J (n:=n) (ver+lenO x) a (k:Int) o y x p m (by omega) n 0 r (by omega) (by omega) (by rw[List.drop_zero];omega)
          rw[show ((0:Nat):Int)=0 from rfl,List.drop_zero]at this
          rw[this,yay.e9,ya7 k (by omega),ih _ _ (by rw[List.length_append];change _+(idsO x).length+_<_;omega) (by omega) h2,bIf_andF,List.append_assoc,Int.add_assoc]
          rfl
        · rw[decide_eq_true (show ver+lenO x>256 by omega),yap,decide_eq_false h2];rfl
      rw[e5]
      by_cases h0:k=0
      · subst h0
        rw[decide_eq_false (show ¬ (((0:Nat):Int)>0) by simp),yam]
        change bIf (!soundB x) _ _=bIf (soundB x&&(true&&_)) _ _
        cases soundB x<;>rfl
      · rw[decide_eq_true (show (k:Int)>0 by omega),yap,ybn (x:=(k:Int)-1) (by omega),yaq ⟨by omega,by omega⟩,show ((k:Int)-1).toNat=k-1 by omega,decide_eq_false h0,Bool.false_or]
        dsimp only
        cases soundB x<;>cases ltS (y.2.2.2.2.1.getD (k-1) (Va.dflt yag)).1 x.1<;>rfl
    · rw[decide_eq_false (show ¬ (k:Int)<((y.2.2.2.2.1.length:Nat):Int) by omega),yam,List.drop_eq_nil_of_le (by omega)]
      have:sumI lenO []=0:=rfl
      rw[this,Int.add_zero,List.flatMap_nil,List.append_nil]
      cases prev y.2.2.2.2.1 k<;>rfl
theorem ups_J {n:Nat} (hn:n≤536870912) (h5:40≤n) (ver a:Int) (o:yaf) (y:yab) (p:Nat) (hl:y.2.2.2.2.2.1.length<536870912) (hup:∀ x∈y.2.2.2.2.2.1,UpS n x):∀ (m k:Nat) (r:List Int),k≤y.2.2.2.2.2.1.length→y.2.2.2.2.2.1.length-k<m→r.length+(y.2.2.2.2.2.1.drop k).length<Many →
    yay.J11 n p m (r,ver,a,(k:Int),o,y,())=bIf (upsR o (prev y.2.2.2.2.2.1 k) (y.2.2.2.2.2.1.drop k)) (yay.J14 n p (r++(y.2.2.2.2.2.1.drop k).flatMap (λu=>[u.1]),ver,a,o,())) (some (false,()))
  | 0,k,_,_,h,_=>by omega
  | m + 1,k,r,hk,h,hr=>by
    rw[yay.e11]
    simp only[yaS]
    by_cases hlt:k<y.2.2.2.2.2.1.length
    · have hx:=hup _ (ybr (d:=Va.dflt yal) hlt)
      have hg:(0≤(k:Int)∧(k:Int)<((y.2.2.2.2.2.1.length:Nat):Int)):=⟨by omega,by omega⟩
      rw[ycA (Va.dflt yal) hlt]at hr ⊢
      rw[List.length_cons]at hr
      have hr:r.length+((y.2.2.2.2.2.1.drop (k+1)).length+1)<1099511627776:=hr
      have e12:yay.J12 n p m (r,ver,a,(k:Int),o,y,())=yay.J11 n p m (r++[(y.2.2.2.2.2.1.getD k (Va.dflt yal)).1],ver,a,((k+1:Nat):Int),o,y,()):=by
        rw[yay.e12,yaq hg,Int.toNat_natCast,yaq (by omega),yay.e13,ya7 k (by omega)]
      have hpr:ydw ydT (prev y.2.2.2.2.2.1 k) (y.2.2.2.2.2.1.getD k (Va.dflt yal))=(decide (k=0)||decide ((y.2.2.2.2.2.1.getD (k-1) (Va.dflt yal)).1<(y.2.2.2.2.2.1.getD k (Va.dflt yal)).1)):=by
        by_cases h0:k=0
        · subst h0;rfl
        · rw[prev_pos (Va.dflt yal) (by omega) hlt,decide_eq_false h0];rfl
      have hps:=prev_succ (Va.dflt yal) hlt
      rw[upsR_cons,hpr,List.flatMap_cons]
      rw[decide_eq_true (show (k:Int)<((y.2.2.2.2.2.1.length:Nat):Int) by omega),yap,yaq hg,yaq hg,Int.toNat_natCast,ref15_upload hn h5 hx,bnd_some,e12]
      have ih:=ups_J hn h5 ver a o y p hl hup m (k+1) (r++[(y.2.2.2.2.2.1.getD k (Va.dflt yal)).1]) (by omega) (by omega) (by rw[List.length_append,List.length_singleton];show _<1099511627776;omega)
      rw[hps]at ih
      rw[ih,List.append_assoc]
      generalize y.2.2.2.2.2.1.getD k (Va.dflt yal)=x
      by_cases h0:k=0
      · subst h0
        rw[decide_eq_false (show ¬ (((0:Nat):Int)>0) by simp),yam]
        change bIf (!okU' o x) _ _=bIf (okU' o x&&(true&&_)) _ _
        cases okU' o x<;>rfl
      · rw[decide_eq_true (show (k:Int)>0 by omega),yap,ybn (x:=(k:Int)-1) (by omega),yaq ⟨by omega,by omega⟩,show ((k:Int)-1).toNat=k-1 by omega,decide_eq_false h0,Bool.false_or,ge_not (y.2.2.2.2.2.1.getD (k-1) (Va.dflt yal)).1 x.1]
        dsimp only
        cases okU' o x<;>cases decide ((y.2.2.2.2.2.1.getD (k-1) (Va.dflt yal)).1<x.1)<;>rfl
    · rw[decide_eq_false (show ¬ (k:Int)<((y.2.2.2.2.2.1.length:Nat):Int) by omega),yam,List.drop_eq_nil_of_le (by omega),List.flatMap_nil,List.append_nil]
      cases prev y.2.2.2.2.2.1 k<;>rfl
theorem ups_len (l:List yan):(l.flatMap λu=>[u.1]).length=l.length:=by
  induction l with
  | nil=>rfl
  | cons x l ih=>rw[List.flatMap_cons,List.length_append,ih,List.length_cons];simp;omega
theorem bks_J {n:Nat} (h3:300≤n) (hn:n≤536870912) (o:yaf) (hl:o.2.2.2.1.length<536870912) (hbk:∀ b∈o.2.2.2.1,BkS n b):∀ (m k:Nat) (r:List Int) (ver:Int),k≤o.2.2.2.1.length→o.2.2.2.1.length-k<m→r.length+((o.2.2.2.1.drop k).flatMap idsB).length<Many→0≤ver→ver≤256 →
    yay.J2 n m (r,ver,(k:Int),o,())=bIf (bksR o (prev o.2.2.2.1 k) (o.2.2.2.1.drop k) ver) (yay.J15 n (r++(o.2.2.2.1.drop k).flatMap idsB,o,())) (some (false,()))
  | 0,k,_,_,_,h,_,_,_=>by omega
  | m + 1,k,r,ver,hk,h,hr,hv0,hv1=>by
    rw[yay.e2]
    simp only[yaS]
    by_cases hlt:k<o.2.2.2.1.length
    · have hx:=hbk _ (ybr (d:=Va.dflt yaa) hlt)
      have hg:(0≤(k:Int)∧(k:Int)<((o.2.2.2.1.length:Nat):Int)):=⟨by omega,by omega⟩
      rw[ycA (Va.dflt yaa) hlt]at hr ⊢
      rw[List.flatMap_cons,List.length_append]at hr
      rw[List.flatMap_cons]
      have hpr:ydw ydB (prev o.2.2.2.1 k) (o.2.2.2.1.getD k (Va.dflt yaa))=(decide (k=0)||ltS (o.2.2.2.1.getD (k-1) (Va.dflt yaa)).1 (o.2.2.2.1.getD k (Va.dflt yaa)).1):=by
        by_cases h0:k=0
        · subst h0;rfl
        · rw[prev_pos (Va.dflt yaa) (by omega) hlt,decide_eq_false h0];rfl
      have hps:=prev_succ (Va.dflt yaa) hlt
      rw[bksR_cons,hpr]
      rw[decide_eq_true (show (k:Int)<((o.2.2.2.1.length:Nat):Int) by omega),yap,yaq hg,Int.toNat_natCast,ref06_Bucket h3,bnd_some,ref12_Good,ref14_Rules hn (by omega) hx.ru,ref14_Grants hn hx.gr]
      simp only[bnd_some]
      have ih:=λr ver=>bks_J h3 hn o hl hbk m (k+1) r ver (by omega) (by omega)
      rw[hps]at ih
      generalize o.2.2.2.1.getD k (Va.dflt yaa)=x at hx hr ih ⊢
      have hol:=hx.ol
      have hul:=hx.ul
      have e3:yay.J3 n m (r,ver,(k:Int),o,x,())=bIf (objsR o none x.2.2.2.2.1 ver&&(upsR o none x.2.2.2.2.2.1&&bksR o (some x) (o.2.2.2.1.drop (k+1)) (ver+sumI lenO x.2.2.2.2.1))) (yay.J15 n (r++(idsB x++(o.2.2.2.1.drop (k+1)).flatMap idsB),o,())) (some (false,())):=by
        have hid:(idsB x).length=(x.2.2.2.2.1.flatMap idsO).length+x.2.2.2.2.2.1.length:=by unfold idsB;rw[List.length_append,ups_len]
        have hr:r.length+((idsB x).length+((o.2.2.2.1.drop (k+1)).flatMap idsB).length)<1099511627776:=hr
        have h4:=objs_J (n:=n) hn (by omega) (k:Int) o x m (by omega) hx.ob n 0 r ver (by omega) (by omega) (by rw[List.drop_zero];show _<1099511627776;omega) hv0 hv1
        rw[show ((0:Nat):Int)=0 from rfl,List.drop_zero]at h4
        rw[yay.e3,h4,bIf_andF]
        change bIf (objsR o none _ _) _ _=_
        cases ho:objsR o none x.2.2.2.2.1 ver with
        | false=>rfl
        | true=>
          have hsum:ver+sumI lenO x.2.2.2.2.1≤256:=by
            rw[objsR_is o _ none ver hv1]at ho
            simp only[Bool.and_eq_true,decide_eq_true_eq]at ho
            exact ho.2.2
          have hnn:0≤sumI lenO x.2.2.2.2.1:=sumI_nn λo _=>lenO_nn o
          have h11:=ups_J (n:=n) hn (by omega) (ver+sumI lenO x.2.2.2.2.1) (k:Int) o x m (by omega) hx.up n 0 (r++x.2.2.2.2.1.flatMap idsO) (by omega) (by omega) (by rw[List.drop_zero,List.length_append];show _<1099511627776;omega)
          rw[show ((0:Nat):Int)=0 from rfl,List.drop_zero]at h11
          rw[yap,yap,yay.e10,h11,yay.e14,ya7 k (by omega),ih _ _ (by rw[List.length_append,List.length_append,ups_len];show _<1099511627776;omega) (by omega) hsum,bIf_andF,List.append_assoc,List.append_assoc]
          unfold idsB
          rw[List.append_assoc]
          rfl
      rw[e3]
      unfold ownT
      by_cases h0:k=0
      · subst h0
        rw[decide_eq_false (show ¬ (((0:Nat):Int)>0) by simp),yam]
        change bIf (!ydP x.1) _ (bIf (!modeB x.2.1) _ (bIf (!rulesB x.2.2.1) _ (bIf (!grantsB x.2.2.2.1) _ (bIf (decide (((x.2.2.2.2.2.1.length:Nat):Int)>4)) _ _))))=bIf (ydP x.1&&(true&&_)) _ _
        cases ydP x.1<;>cases modeB x.2.1<;>cases rulesB x.2.2.1<;>cases grantsB x.2.2.2.1<;>cases decide (((x.2.2.2.2.2.1.length:Nat):Int)>4)<;>rfl
      · rw[decide_eq_true (show (k:Int)>0 by omega),yap,ybn (x:=(k:Int)-1) (by omega),yaq ⟨by omega,by omega⟩,show ((k:Int)-1).toNat=k-1 by omega,decide_eq_false h0,Bool.false_or]
        generalize (o.2.2.2.1.getD (k-1) (Va.dflt yaa))=x'
        change bIf (!ydP x.1) _ (bIf (!ltS x'.1 x.1) _ (bIf (!modeB x.2.1) _ (bIf (!rulesB x.2.2.1) _ (bIf (!grantsB x.2.2.2.1) _ (bIf (decide (((x.2.2.2.2.2.1.length:Nat):Int)>4)) _ _)))))=_
        cases ydP x.1<;>cases ltS x'.1 x.1<;>cases modeB x.2.1<;>cases rulesB x.2.2.1<;>cases grantsB x.2.2.2.1<;>cases decide (((x.2.2.2.2.2.1.length:Nat):Int)>4)<;>rfl
    · rw[decide_eq_false (show ¬ (k:Int)<((o.2.2.2.1.length:Nat):Int) by omega),yam,List.drop_eq_nil_of_le (by omega),List.flatMap_nil,List.append_nil]
      cases prev o.2.2.2.1 k<;>rfl
theorem ref15_Sound {n:Nat}(h3:300≤n)(hn:n≤536870912){s:yaf}(hs:StS n s):yay.f n s=some (ydE s,()):=by
  have hl:=hs.len
  have hf:(idsS s).length<n:=hs.few
  have h2:=bks_J h3 hn s (by omega) hs.bk n 0 [] 0 (by omega) (by omega) (by rw[List.drop_zero];change 0+(idsS s).length<1099511627776;omega) (Int.le_refl 0) (by decide)
  rw[show ((0:Nat):Int)=0 from rfl,List.drop_zero,List.nil_append]at h2
  have h15:=ids_all (n:=n) (idsS s) s hf (by omega)
  have h2:yay.J2 n n ([],0,0,s,())=bIf (bksR s none s.2.2.2.1 0) (yay.J15 n (idsS s,s,())) (some (false,())):=h2
  rw[yay.e0,clamp36,yay.e1,h2,h15,stateB_is]
  simp only[yaS,bnd_some]
  unfold topB
  change bIf (ydH s.1 != s.1) _ (bIf _ _ (bIf _ _ (bIf _ _ (bIf _ _ (bIf _ _ (bIf (bksR s none s.2.2.2.1 0) _ _))))))=_
  have ec:(ydH s.1 != s.1)=!(s.1==ydH s.1):=by
    by_cases e:s.1=ydH s.1
    · rw[← e];simp
    · rw[show (s.1==ydH s.1)=false from beq_eq_false_iff_ne.2 e]
      exact bne_iff_ne.2 (λq=>e q.symm)
  rw[ec]
  cases (s.1==ydH s.1)<;>cases decide (s.2.1<1)<;>cases decide (s.2.1>4611686018427387904)<;>cases decide (s.2.2.1<1)<;>cases decide (s.2.2.1>4611686018427387904)<;>cases decide ((s.2.2.2.1.length:Int)>16)<;>cases bksR s none s.2.2.2.1 0<;>rfl
end Go.Proofs.YtemhlkdingkjnaaGreatDoor
namespace Go.Proofs.YtemhlkdingkjnaaGreatDoor
open Go Go.Va Go.Proofs Go.ChangeShapes Go.WideShapes Go.ChangeAt Go.RowKit
theorem kids:Kids Tryz.prog (· < Tryz.prog.types.size):=kids_rows (by kernel_rfl) (by kernel_rfl)
theorem full:∀ t e,t<Tryz.prog.types.size→Tryz.prog.underlying t=some (.slice e)→0<Tryz.prog.cellsOf e:=slices_full_of Tryz.prog (by kernel_rfl)
theorem own:ownKnob Tryz.prog.godebug=none:=by kernel_rfl
mutual
theorem bulk_eq {H:Type}:∀ (d:DataW H),Rows.uptoBulk d=bulk d
  | .lit l=>by cases l<;>simp[Rows.uptoBulk,bulk]
  | .nil=>by simp[Rows.uptoBulk,bulk]
  | .ptr d=>by simp[Rows.uptoBulk,bulk,bulk_eq d]
  | .slice elems spare=>by simp[Rows.uptoBulk,bulk,bulkL_eq elems,bulkL_eq spare]
  | .agg parts=>by simp[Rows.uptoBulk,bulk,bulkL_eq parts]
  | .iface _ d=>by simp[Rows.uptoBulk,bulk,bulk_eq d]
  | .map entries=>by simp[Rows.uptoBulk,bulk,bulkE_eq entries]
  | .held _=>by simp[Rows.uptoBulk,bulk]
theorem bulkL_eq {H:Type}:∀ (l:List (DataW H)),Rows.uptoBulkAll l=bulkL l
  | []=>by simp[Rows.uptoBulkAll,bulkL]
  | d::r=>by simp[Rows.uptoBulkAll,bulkL,bulk_eq d,bulkL_eq r]
theorem bulkE_eq {H:Type}:∀ (l:List (Lit×DataW H)),Rows.uptoBulkEntries l=bulkE l
  | []=>by simp[Rows.uptoBulkEntries,bulkE]
  | x::r=>by simp[Rows.uptoBulkEntries,bulkE,bulkX_eq x,bulkE_eq r]
theorem bulkX_eq {H:Type}:∀ (x:Lit×DataW H),Rows.uptoBulkEntry x=bulkX x
  | (l,d)=>by cases l<;>simp[Rows.uptoBulkEntry,bulkX,bulk_eq d]
end
theorem small_of {H:Type}{ds gs:List (DataW H)}(h:Rows.uptoSmall H (ds++gs)=true):bulkL ds≤1048576:=by
  have h:=of_decide_eq_true h
  rw[bulkL_eq,bulkL_append]at h
  omega
theorem vol_mem {e:Ty}{l:List (Den e)}{x:Den e}(h:x∈l):vol e x≤(l.map (vol e)).sum:=by
  induction l with
  | nil=>simp at h
  | cons y l ih=>
    rw[List.map_cons,List.sum_cons]
    rcases List.mem_cons.1 h with rfl | h
    · omega
    · have:=ih h;omega
theorem vol_len {e:Ty}{l:List (Den e)}(h:∀ x∈l,1≤vol e x):l.length≤(l.map (vol e)).sum:=by
  induction l with
  | nil=>simp
  | cons y l ih=>
    rw[List.map_cons,List.sum_cons,List.length_cons]
    have h1:=h y List.mem_cons_self
    have h2:=ih (λx hx=>h x (List.mem_cons_of_mem _ hx))
    omega
theorem vol_Tag (t:yaI):vol yar t=t.1.size+1+(t.2.1.size+1):=rfl
theorem vol_Ver (v:Ver):vol yae v=1+(1+(1+(1+((((dig v).map (vol (.int .u8))).sum+1)+(1+(vol ycs (lock v)+((((tags v).map (vol yar)).sum+1)+0))))))):=rfl
theorem vol_Rule (r:yaE):vol yav r=r.1.size+1+(((r.2.1.map (vol yar)).sum+1)+vol ycs r.2.2):=rfl
theorem vol_Grant (g:yaH):vol yaC g=1+(g.2.1.size+1+(g.2.2.1.size+1+(g.2.2.2.1.size+1))):=rfl
theorem Ts_of {n:Nat}{l:List yaI}(h:(l.map (vol yar)).sum<n):TsB n l:=by
  have hl:=vol_len (e:=yar) (l:=l) (λx _=>by rw[vol_Tag];omega)
  exact⟨by omega,λt ht=>by have:=vol_mem (e:=yar) ht;rw[vol_Tag]at this;exact⟨by omega,by omega⟩⟩
theorem vol_Part (p:yaJ):1≤vol yaK p:=by
  change 1≤1+_
  omega
theorem vol_Up (u:yan):vol yal u=1+(u.2.1.size+1+(((u.2.2.1.map (vol yar)).sum+1)+(((u.2.2.2.1.map (vol yaK)).sum+1)+0))):=rfl
theorem vol_Ob (o:yad):vol yag o=o.1.size+1+(((o.2.1.map (vol yae)).sum+1)+0):=rfl
theorem vol_Bk (b:yab):vol yaa b=b.1.size+1+(vol ya4 b.2.1+(((b.2.2.1.map (vol yav)).sum+1)+(((b.2.2.2.1.map (vol yaC)).sum+1)+(((b.2.2.2.2.1.map (vol yag)).sum+1)+(((b.2.2.2.2.2.1.map (vol yal)).sum+1)+0))))):=rfl
theorem vol_St (s:yaf):vol yah s=1+(1+(1+(((s.2.2.2.1.map (vol yaa)).sum+1)+0))):=rfl
theorem u64nn {x:Int}(h:IntKind.u64.min≤x∧x≤IntKind.u64.max):0≤x:=h.1
theorem VB_of {n:Nat}{v:Ver}(hw:Wf yae v)(h:vol yae v<n):VB n v:=by
  rw[vol_Ver]at h
  exact⟨u64nn hw.1,u64nn hw.2.2.2.1,hw.2.2.2.2.1.1,Ts_of (by omega)⟩
theorem OB_of {n:Nat}{o:yad}(hw:Wf yag o)(h:vol yag o<n):OB n o:=by
  rw[vol_Ob]at h
  have l1:=vol_len (e:=yae) (l:=o.2.1) (λx _=>by rw[vol_Ver];omega)
  refine⟨by omega,by omega,λv hv=>VB_of (hw.2.1.2 v hv) ?_⟩
  have:=vol_mem (e:=yae) hv
  omega
theorem US_of {n:Nat}{u:yan}(h:vol yal u<n):UpS n u:=by
  rw[vol_Up]at h
  have l2:=vol_len (e:=yaK) (l:=u.2.2.2.1) (λx _=>vol_Part x)
  exact⟨by omega,Ts_of (by omega),by omega⟩
theorem BS_of {n:Nat}{b:yab}(hw:Wf yaa b)(h:vol yaa b<n):BkS n b:=by
  rw[vol_Bk]at h
  have l1:=vol_len (e:=yav) (l:=b.2.2.1) (λx _=>by rw[vol_Rule];omega)
  have l2:=vol_len (e:=yaC) (l:=b.2.2.2.1) (λx _=>by rw[vol_Grant];omega)
  have l3:=vol_len (e:=yag) (l:=b.2.2.2.2.1) (λx _=>by rw[vol_Ob];omega)
  have l4:=vol_len (e:=yal) (l:=b.2.2.2.2.2.1) (λx _=>by rw[vol_Up];omega)
  refine⟨⟨by omega,λr hr => ?_⟩,⟨by omega,λg hg => ?_⟩,by omega,λo ho=>OB_of (hw.2.2.2.2.1.2 o ho) ?_,by omega,λu hu=>US_of ?_⟩
  · have:=vol_mem (e:=yav) hr
    rw[vol_Rule]at this
    exact⟨by omega,Ts_of (by omega)⟩
  · have:=vol_mem (e:=yaC) hg
    rw[vol_Grant]at this
    exact⟨by omega,by omega,by omega⟩
  · have:=vol_mem (e:=yag) ho
    omega
  · have:=vol_mem (e:=yal) hu
    omega
theorem sumI_le {α:Type}{f:α→Int}{g:α→Nat}:∀ {l:List α},(∀ x∈l,f x≤(g x:Int))→sumI f l≤(((l.map g).sum:Nat):Int)
  | [],_=>by simp[sumI]
  | x::l,h=>by
    rw[sumI_cons,List.map_cons,List.sum_cons]
    have h1:=h x (by simp)
    have h2:=sumI_le (l:=l) λy hy=>h y (by simp[hy])
    omega
theorem lenB_le (b:yab):lenB b≤(vol yaa b:Int):=by
  rw[vol_Bk,lenB_is]
  have h1:sumI lenO b.2.2.2.2.1≤(((b.2.2.2.2.1.map (vol yag)).sum:Nat):Int):=sumI_le λo _=>by
    rw[vol_Ob]
    have l1:=vol_len (e:=yae) (l:=o.2.1) (λx _=>by rw[vol_Ver];omega)
    unfold lenO;omega
  omega
theorem flat_le {α β:Type}{f:α→List β}{g:α→Nat}:∀ {l:List α},(∀ x∈l,(f x).length≤g x)→(l.flatMap f).length≤(l.map g).sum
  | [],_=>by simp
  | x::l,h=>by
    rw[List.flatMap_cons,List.length_append,List.map_cons,List.sum_cons]
    have h1:=h x (by simp)
    have h2:=flat_le (l:=l) λy hy=>h y (by simp[hy])
    omega
theorem idsB_le (b:yab):(idsB b).length≤vol yaa b:=by
  rw[vol_Bk]
  unfold idsB
  rw[List.length_append]
  have h1:(b.2.2.2.2.1.flatMap idsO).length≤(b.2.2.2.2.1.map (vol yag)).sum:=flat_le λo _=>by
    rw[vol_Ob]
    have l1:=vol_len (e:=yae) (l:=o.2.1) (λx _=>by rw[vol_Ver];omega)
    unfold idsO;rw[List.length_map];omega
  have h2:(b.2.2.2.2.2.1.flatMap λu=>[u.1]).length≤(b.2.2.2.2.2.1.map (vol yal)).sum:=flat_le λu _=>by
    rw[vol_Up,List.length_singleton];omega
  omega
theorem S_of {s:yaf}(h:vol yah s<2097152)(hw:Wf yah s):StS 2097152 s:=by
  rw[vol_St]at h
  have l1:=vol_len (e:=yaa) (l:=s.2.2.2.1) (λx _=>by rw[vol_Bk];omega)
  refine⟨by omega,λb hb=>BS_of (hw.2.2.2.1.2 b hb) ?_,?_,?_⟩
  · have:=vol_mem (e:=yaa) hb
    omega
  · have:sumI lenB s.2.2.2.1≤(((s.2.2.2.1.map (vol yaa)).sum:Nat):Int):=sumI_le λb _=>lenB_le b
    have:((2097152:Nat):Int)≤Lim:=by decide
    omega
  · have:(s.2.2.2.1.flatMap idsB).length≤(s.2.2.2.1.map (vol yaa)).sum:=flat_le λb _=>idsB_le b
    omega
theorem acc_eq:(Rows.laid_unicode_utf8_acceptRanges:DataW Unit)=Lib.acceptData:=by kernel_rfl
theorem fst_eq:Rows.laid_unicode_utf8_first=Lib.firstData:=by kernel_rfl
theorem tabs_of {W : World} (h3 : Lib.VarReads Tryz.prog W "unicode/utf8.first" Lib.firstData) (h4 : Lib.VarReads Tryz.prog W "unicode/utf8.acceptRanges" Lib.acceptData) : Lib.Utf8Tabs 0 1 W :=
  utf8Tabs_of_readsT (U8Types.of196 Tryz.l196) ⟨by kernel_rfl,by kernel_rfl,by kernel_rfl,by kernel_rfl,by kernel_rfl,by kernel_rfl,by kernel_rfl⟩ h3 h4
theorem live_of {W:World}{b o:Nat}{v:Value}(h:W.cell? ⟨b,o,none⟩=some v):b<W.heap.size:=by
  rcases Nat.lt_or_ge b W.heap.size with hb | hb
  · exact hb
  · have:W.heap[b]?=none:=Array.getElem?_eq_none hb
    simp[World.cell?,this]at h
theorem gl_tab {W:World}(h:Lib.Utf8Tabs 0 1 W)(hsh:W.ShapedOpen Tryz.prog):∀ p∈Gl.tab,p.1<W.heap.size∧∃ cs,p.2 cs∧At W ⟨p.1,0,none⟩ cs:=by
  obtain⟨h0,h1⟩:=h
  intro p hp
  have hp:p=(0,λcs=>cs=firstCells)∨p=(1,λcs=>cs=ydv)∨p=(2,λcs=>∃ m,cs=[.int .i64 m]):=by simpa[Gl.tab]using hp
  rcases hp with rfl | rfl | rfl
  · refine⟨live_of (h0 0 (by omega)),_,rfl,rfl,λj hj => ?_⟩
    have hj2:j<256:=by simpa[firstCells,Lib.firstTab]using hj
    simp only[Nat.zero_add]
    rw[h0 j hj2]
    simp[firstCells,Lib.firstTab]
  · refine⟨live_of (h1 0 (by omega)).1,_,rfl,rfl,λj hj => ?_⟩
    have hl:ydv.length=32:=by kernel_rfl
    have hj2:j<32:=by rw[← hl];exact hj
    simp only[Nat.zero_add]
    obtain⟨e0,e1⟩:=acc_get (j/2) (by omega)
    obtain⟨c0,c1⟩:=h1 (j/2) (by omega)
    rcases Nat.mod_two_eq_zero_or_one j with hm | hm
    · have ej:j=2*(j/2):=by omega
      rw[show (⟨1,j,none⟩:Addr)=⟨1,2*(j/2),none⟩ by rw[← ej],c0,← e0,← ej,List.getElem?_eq_getElem hj]
    · have ej:j=2*(j/2)+1:=by omega
      rw[show (⟨1,j,none⟩:Addr)=⟨1,2*(j/2)+1,none⟩ by rw[← ej],c1,← e1,← ej,List.getElem?_eq_getElem hj]
  · obtain⟨m,hm⟩:=cell_of_shapedOpen_int (P:=Tryz.prog) (g:=2) (t:=3) (zero := #[.int .i64 0]) hsh (of_decide_eq_true (by kernel_rfl)) (by kernel_rfl) rfl (by kernel_rfl) (by kernel_rfl) Tryz.underlying3
    refine⟨live_of hm,_,⟨m,rfl⟩,rfl,λj hj => ?_⟩
    obtain rfl:j=0:=by simpa using hj
    simpa using hm
abbrev laidAll : List (String × DataW Unit) := [("unicode/utf8.acceptRanges", Rows.laid_unicode_utf8_acceptRanges), ("unicode/utf8.first", Rows.laid_unicode_utf8_first)]
theorem noHandle {W:World}(h:laidMetH Tryz.prog laidAll W):laidMet Tryz.prog laidAll W:=by
  have e:(laidAll.filter λx=>x.2.handleName?.isSome)=[]:=by kernel_rfl
  unfold laidMetH at h
  rw[e]at h
  exact h
theorem gl_of {W:World}(hL:laidMet Tryz.prog laidAll W)(hsh:W.ShapedOpen Tryz.prog):(∀ p∈Gl.tab,p.1<W.heap.size∧∃ cs,p.2 cs∧At W ⟨p.1,0,none⟩ cs)∧∀ p∈Gl.ex,∃ o,W.heap[p.1]?=some o∧p.2 o:=
  ⟨gl_tab (tabs_of (fst_eq ▸ Lib.laidMet.reads hL (.tail _ (.head _))) (acc_eq ▸ Lib.laidMet.reads hL (.head _))) hsh,λp hp=>by simp[Gl.ex]at hp⟩
noncomputable def laidWorld (os:Os):World:=
  let w0:=World.holding Tryz.prog os ⟨#[],#[],[]⟩
  let put (h:Array Obj) (g:Nat) (cs:Array Value):Array Obj:=h.modify g fun
    | .cells _ t frozen => .cells cs t frozen
    | o=>o
  let h1:=put w0.heap 0 firstCells.toArray
  let h2:=put h1 1 ydv.toArray
  { w0 with heap:=h2 }
set_option maxRecDepth 100000 in
theorem laid_met (os:Os)(args:Array Value):laidMet Tryz.prog Rows.metaFindsUptoRow.laid ((laidWorld os).forCall (λ_ _=>0) ⟨#[],args,[]⟩).memory:=
  (LaidIn.of_run (l := [("unicode/utf8.acceptRanges", Lib.acceptData), ("unicode/utf8.first", Lib.firstData)]) [0, 1] 8 (by kernel_rfl) (by kernel_rfl) (by kernel_rfl) (by kernel_rfl)).met
def zS:Array Value := #[Value.int IntKind.i64 0,Value.int IntKind.u64 0,Value.int IntKind.u64 0,Value.slice none 0 0]
def dS {H:Type}:DataW H := .agg [.lit (.int .i64 0),.lit (.int .u64 0),.lit (.int .u64 0),.nil]
theorem getL {α:Type}{a:Array α}{i:Nat}{x:α}(h:a.toList[i]?=some x):a[i]?=some x:=by simpa using h
theorem and_i {a b:Bool}(ha:a=true)(hb:b=true):(a&&b)=true:=by rw[ha,hb];rfl
theorem factLaid:laidOutB Tryz.pinned.checked.prog=true:=by kernel_rfl
theorem factMaps:mapsRowed Tryz.pinned.checked.prog=true:=by kernel_rfl
theorem factHeard:Tryz.pinned.checked.prog.stopsHeard=true:=by kernel_rfl
theorem factEnter:Tryz.pinned.checked.prog.mayEnter=true:=by kernel_rfl
end Go.Proofs.YtemhlkdingkjnaaGreatDoor
namespace Go.Proofs.YtemhlkdingkjnaaGreatDoor
open Go Go.Va Go.Proofs
theorem less_trans:∀ x y z:List UInt8,Op.bytesLess x y=true→Op.bytesLess y z=true→Op.bytesLess x z=true
  | _,[],_,h,_=>by cases ‹List UInt8›<;>simp[Op.bytesLess]at h
  | _,_::_,[],_,h=>by simp[Op.bytesLess]at h
  | [],_::_,_::_,_,_=>rfl
  | a :: x,b::y,c::z,h1,h2=>by
    simp only[Op.bytesLess,Bool.or_eq_true,decide_eq_true_eq,Bool.and_eq_true,beq_iff_eq]at h1 h2 ⊢
    rcases h1 with h1 | ⟨rfl,h1⟩
    · rcases h2 with h2 | ⟨rfl,h2⟩
      · exact .inl (UInt8.lt_trans h1 h2)
      · exact .inl h1
    · rcases h2 with h2 | ⟨rfl,h2⟩
      · exact .inl h2
      · exact .inr ⟨rfl,less_trans x y z h1 h2⟩
theorem ltS_trans {a b c:ByteArray}(h:ltS a b=true)(k:ltS b c=true):ltS a c=true:=less_trans _ _ _ h k
theorem less_irr:∀ x:List UInt8,Op.bytesLess x x=false
  | []=>rfl
  | a::x=>by
    simp only[Op.bytesLess,less_irr x,Bool.and_false,Bool.or_false]
    exact decide_eq_false (UInt8.lt_irrefl a)
theorem ltS_irr (a:ByteArray):ltS a a=false:=less_irr _
theorem up_pair {α:Type} {lt:α→α→Bool} (ht:∀ a b c,lt a b=true→lt b c=true→lt a c=true):∀ (l:List α) (o:Option α),chk (λ_=>true) lt o l=true→(∀ x,o=some x→∀ y∈l,lt x y=true)∧l.Pairwise (λa b=>lt a b=true)
  | [],o,_=>⟨λ_ _ y hy=>(nomatch hy),.nil⟩
  | x :: l,o,h=>by
    have h1:chk (λ_=>true) lt (some x) l=true∧(∀ z,o=some z→lt z x=true):=by
      cases o with
      | none=>simp only[chk,Bool.true_and]at h;exact⟨h,λz hz=>nomatch hz⟩
      | some z=>
        simp only[chk,Bool.true_and,Bool.and_eq_true]at h
        exact⟨h.2,λz' hz=>by injection hz with hz;subst hz;exact h.1⟩
    obtain⟨k1,k2⟩:=up_pair ht l (some x) h1.1
    refine⟨λz hz y hy => ?_,.cons (λy hy=>k1 x rfl y hy) k2⟩
    rcases List.mem_cons.1 hy with rfl | hy
    · exact h1.2 z hz
    · exact ht _ _ _ (h1.2 z hz) (k1 x rfl y hy)
end Go.Proofs.YtemhlkdingkjnaaGreatDoor
namespace Go.Proofs.YtemhlkdingkjnaaGreatDoor
open Go Go.Va Go.Proofs
noncomputable section
namespace ya9
abbrev ia:List Ai:=[.dat yah]
abbrev io:List (Nat×Oi):=[(2,.cel (.p (.d (.int .i64)) (.p (.d (.int .u64)) (.p (.d (.int .u64)) (.p (.r 0 yaa) (.p (.r 0 yaB) (.p (.r 0 yaB) (.d .unit))))))))]
abbrev R:Type:=DOut ia io
def X (n:Nat):Ctx:=⟨⟨tab,[],0,[]⟩,111,bnOf 0 ia⟩
abbrev g1:List Si:=[.ref 1 1 yah,.ref 2 2 yaR,.ref 3 3 yaR,.dat 4 (.int .i64),.box 1 (.d yah),.box 2 (.p (.d (.int .i64)) (.p (.d (.int .u64)) (.p (.d (.int .u64)) (.p (.r 100000000002000 yaa) (.p (.r 100000000002001 yaB) (.p (.r 100000000002002 yaB) (.d .unit))))))),.box 3 (.p (.d (.int .i64)) (.p (.d (.int .u64)) (.p (.d (.int .u64)) (.p (.r 100000000003000 yaa) (.p (.r 100000000003001 yaB) (.p (.r 100000000003002 yaB) (.d .unit)))))))]
abbrev g2:List Si:=[.ref 1 1 yah,.ref 2 2 yaR,.ref 3 3 yaR,.dat 4 (.int .i64),.ref 5 5 yaa,.dat 6 (.int .i64),.box 1 (.d yah),.box 2 (.p (.d (.int .i64)) (.p (.d (.int .u64)) (.p (.d (.int .u64)) (.p (.r 100000000002000 yaa) (.p (.r 100000000002001 yaB) (.p (.r 100000000002002 yaB) (.d .unit))))))),.box 3 (.p (.d (.int .i64)) (.p (.d (.int .u64)) (.p (.d (.int .u64)) (.p (.r 100000000003000 yaa) (.p (.r 100000000003001 yaB) (.p (.r 100000000003002 yaB) (.d .unit))))))),.box 5 (.d yaa)]
abbrev g3:List Si:=[.ref 1 1 yah,.ref 2 2 yaR,.ref 3 3 yaR,.dat 4 (.int .i64),.ref 5 5 yaa,.dat 6 (.int .i64),.dat 7 (.int .i64),.box 1 (.d yah),.box 2 (.p (.d (.int .i64)) (.p (.d (.int .u64)) (.p (.d (.int .u64)) (.p (.r 100000000002000 yaa) (.p (.r 100000000002001 yaB) (.p (.r 100000000002002 yaB) (.d .unit))))))),.box 3 (.p (.d (.int .i64)) (.p (.d (.int .u64)) (.p (.d (.int .u64)) (.p (.r 100000000003000 yaa) (.p (.r 100000000003001 yaB) (.p (.r 100000000003002 yaB) (.d .unit))))))),.box 5 (.d yaa)]
abbrev g4:List Si:=[.ref 1 1 yah,.ref 2 2 yaR,.ref 3 3 yaR,.dat 4 (.int .i64),.ref 5 5 yaa,.dat 6 (.int .i64),.box 1 (.d yah),.box 2 (.p (.d (.int .i64)) (.p (.d (.int .u64)) (.p (.d (.int .u64)) (.p (.r 100000000002000 yaa) (.p (.r 100000000002001 yaB) (.p (.r 100000000002002 yaB) (.d .unit))))))),.box 3 (.p (.d (.int .i64)) (.p (.d (.int .u64)) (.p (.d (.int .u64)) (.p (.r 100000000003000 yaa) (.p (.r 100000000003001 yaB) (.p (.r 100000000003002 yaB) (.d .unit))))))),.box 5 (.d yaa)]
abbrev g5:List Si:=[.ref 1 1 yah,.ref 2 2 yaR,.ref 3 3 yaR,.dat 4 (.int .i64),.ref 5 5 yaa,.box 1 (.d yah),.box 2 (.p (.d (.int .i64)) (.p (.d (.int .u64)) (.p (.d (.int .u64)) (.p (.r 100000000002000 yaa) (.p (.r 100000000002001 yaB) (.p (.r 100000000002002 yaB) (.d .unit))))))),.box 3 (.p (.d (.int .i64)) (.p (.d (.int .u64)) (.p (.d (.int .u64)) (.p (.r 100000000003000 yaa) (.p (.r 100000000003001 yaB) (.p (.r 100000000003002 yaB) (.d .unit))))))),.box 5 (.d yaa)]
abbrev g6:List Si:=[.ref 1 1 yah,.ref 2 2 yaR,.ref 3 3 yaR,.dat 4 (.int .i64),.ref 5 5 yaa,.dat 8 (.int .i64),.box 1 (.d yah),.box 2 (.p (.d (.int .i64)) (.p (.d (.int .u64)) (.p (.d (.int .u64)) (.p (.r 100000000002000 yaa) (.p (.r 100000000002001 yaB) (.p (.r 100000000002002 yaB) (.d .unit))))))),.box 3 (.p (.d (.int .i64)) (.p (.d (.int .u64)) (.p (.d (.int .u64)) (.p (.r 100000000003000 yaa) (.p (.r 100000000003001 yaB) (.p (.r 100000000003002 yaB) (.d .unit))))))),.box 5 (.d yaa)]
abbrev g7:List Si:=[.ref 1 1 yah,.ref 2 2 yaR,.ref 3 3 yaR,.dat 4 (.int .i64),.box 1 (.d yah),.box 2 (.p (.d (.int .i64)) (.p (.d (.int .u64)) (.p (.d (.int .u64)) (.p (.r 100000000002000 yaa) (.p (.r 100000000002001 yaB) (.p (.r 100000000002002 yaB) (.d .unit))))))),.box 3 (.p (.d (.int .i64)) (.p (.d (.int .u64)) (.p (.d (.int .u64)) (.p (.r 100000000003000 yaa) (.p (.r 100000000003001 yaB) (.p (.r 100000000003002 yaB) (.d .unit)))))))]
abbrev g8:List Si:=[.ref 2 2 yaR,.ref 3 3 yaR,.box 2 (.p (.d (.int .i64)) (.p (.d (.int .u64)) (.p (.d (.int .u64)) (.p (.r 100000000002000 yaa) (.p (.r 100000000002001 yaB) (.p (.r 100000000002002 yaB) (.d .unit))))))),.box 3 (.p (.d (.int .i64)) (.p (.d (.int .u64)) (.p (.d (.int .u64)) (.p (.r 100000000003000 yaa) (.p (.r 100000000003001 yaB) (.p (.r 100000000003002 yaB) (.d .unit)))))))]
def T:CT:=(.s .o (.s .o (.s (.s .o (.b (.l g1 (.s .o (.s (.b (.s .o (.s .o (.s (.s .o (.b (.l g2 (.s .o (.s (.b (.s .o (.b (.l g3 .o)))) (.r g4 .o)))))) (.r g5 (.s .o (.b (.l g6 .o)))))))) (.r g7 .o)))))) (.r g8 .o))))
def J1 (n:Nat)(m:Nat):Int×yaf×yaz×yaz×Unit→Option R:=jL (X n) n T (yau Tryz.f14) (endK ia io) g1 [1,1,0,1,0] [] m
def J2 (n m1:Nat)(m:Nat):Int×Int×yaf×yaz×yaz×yab×Unit→Option R:=jL (X n) n T (yau Tryz.f14) (endK ia io) g2 [1,1,0,1,0,0,1,0,0,1,1,0,1,0] [m1] m
def J3 (n m1 m2:Nat)(m:Nat):Int×Int×Int×yaf×yaz×yaz×yab×Unit→Option R:=jL (X n) n T (yau Tryz.f14) (endK ia io) g3 [1,1,0,1,0,0,1,0,0,1,1,0,1,0,0,1,0,0,1,0] [m1,m2] m
def J4 (n m1 m2:Nat):Int×Int×yaf×yaz×yaz×yab×Unit→Option R:=jR (X n) n T (yau Tryz.f14) (endK ia io) g4 [1,1,0,1,0,0,1,0,0,1,1,0,1,0,0,1,1] [m1,m2]
def J5 (n m1:Nat):Int×yaf×yaz×yaz×yab×Unit→Option R:=jR (X n) n T (yau Tryz.f14) (endK ia io) g5 [1,1,0,1,0,0,1,0,0,1,1,1] [m1]
def J6 (n m1:Nat)(m:Nat):Int×Int×yaf×yaz×yaz×yab×Unit→Option R:=jL (X n) n T (yau Tryz.f14) (endK ia io) g6 [1,1,0,1,0,0,1,0,0,1,1,1,1,0] [m1] m
def J7 (n m1:Nat):Int×yaf×yaz×yaz×Unit→Option R:=jR (X n) n T (yau Tryz.f14) (endK ia io) g7 [1,1,0,1,0,0,1,1] [m1]
def J8 (n:Nat):yaz×yaz×Unit→Option R:=jR (X n) n T (yau Tryz.f14) (endK ia io) g8 [1,1,1] []
def f (n:Nat)(s_:yaf):Option R:=fRun (X n) n T Tryz.f14 ia io (s_,())
theorem e0 (n:Nat)(s_:yaf):f n s_=J1 n n (0,s_,(0,(0,(0,([],([],([],())))))),(s_.1,(s_.2.1,(s_.2.2.1,([],([],([],())))))),()):=(yac _).trans (by kernel_rfl)
theorem e1 (n m:Nat)(i:Int)(s_:yaf)(b2:yaz)(f_:yaz):J1 n (m+1) (i,s_,b2,f_,())=bIf ((hide (decide (i<((s_.2.2.2.1.length:Nat):Int))))) (gIf (0≤i∧i<((s_.2.2.2.1.length:Nat):Int)) (gIf ((f_.2.2.2.1.length+1)*128≤70368744177664) (J2 n m n (i,0,s_,b2,(f_.1,(f_.2.1,(f_.2.2.1,((f_.2.2.2.1++([((List.getD s_.2.2.2.1 i.toNat (Va.dflt yaa)).1,(((List.getD s_.2.2.2.1 i.toNat (Va.dflt yaa)).2).1,((((List.getD s_.2.2.2.1 i.toNat (Va.dflt yaa)).2).2).1,(((((List.getD s_.2.2.2.1 i.toNat (Va.dflt yaa)).2).2).2).1,([],([],()))))))]:List (yab))),f_.2.2.2.2)))),(List.getD s_.2.2.2.1 i.toNat (Va.dflt yaa)),())))) (J8 n (b2,f_,())):=(yac _).trans (by kernel_rfl)
theorem e2 (n m1 m:Nat)(i:Int)(k_:Int)(s_:yaf)(b2:yaz)(f_:yaz)(b:yab):J2 n m1 (m+1) (i,k_,s_,b2,f_,b,())=bIf ((hide (decide (k_<((b.2.2.2.2.1.length:Nat):Int))))) (J3 n m1 m n (i,k_,0,s_,b2,f_,b,())) (J5 n m1 (i,s_,b2,f_,b,())):=(yac _).trans (by kernel_rfl)
theorem e3 (n m1 m2 m:Nat)(i:Int)(k_:Int)(j:Int)(s_:yaf)(b2:yaz)(f_:yaz)(b:yab):J3 n m1 m2 (m+1) (i,k_,j,s_,b2,f_,b,())=gIf (0≤k_∧k_<((b.2.2.2.2.1.length:Nat):Int)) (bIf ((hide (decide (j<(((((List.getD b.2.2.2.2.1 k_.toNat (Va.dflt yag)).2).1).length:Nat):Int))))) (gIf (0≤k_∧k_<((b.2.2.2.2.1.length:Nat):Int)) (gIf (0≤k_∧k_<((b.2.2.2.2.1.length:Nat):Int)) (gIf (0≤j∧j<(((((List.getD b.2.2.2.2.1 k_.toNat (Va.dflt yag)).2).1).length:Nat):Int)) (gIf ((f_.2.2.2.2.1.length+1)*224≤70368744177664) (J3 n m1 m2 m (i,k_,(IntKind.i64.wrap (j+(1:Int))),s_,b2,(f_.1,(f_.2.1,(f_.2.2.1,(f_.2.2.2.1,((f_.2.2.2.2.1++([(b.1,((List.getD b.2.2.2.2.1 k_.toNat (Va.dflt yag)).1,((List.getD (((List.getD b.2.2.2.2.1 k_.toNat (Va.dflt yag)).2).1) j.toNat (Va.dflt yae)),((0,((⟨#[]⟩:ByteArray),([],([],())))),()))))]:List (D_ref15_Row))),f_.2.2.2.2.2))))),b,())))))) (J4 n m1 m2 (i,k_,s_,b2,f_,b,()))):=(yac _).trans (by kernel_rfl)
theorem e4 (n m1 m2:Nat)(i:Int)(k_:Int)(s_:yaf)(b2:yaz)(f_:yaz)(b:yab):J4 n m1 m2 (i,k_,s_,b2,f_,b,())=J2 n m1 m2 (i,(IntKind.i64.wrap (k_+(1:Int))),s_,b2,f_,b,()):=(yac _).trans (by kernel_rfl)
theorem e5 (n m1:Nat)(i:Int)(s_:yaf)(b2:yaz)(f_:yaz)(b:yab):J5 n m1 (i,s_,b2,f_,b,())=J6 n m1 n (i,0,s_,b2,f_,b,()):=(yac _).trans (by kernel_rfl)
theorem e6 (n m1 m:Nat)(i:Int)(k_:Int)(s_:yaf)(b2:yaz)(f_:yaz)(b:yab):J6 n m1 (m+1) (i,k_,s_,b2,f_,b,())=bIf ((hide (decide (k_<((b.2.2.2.2.2.1.length:Nat):Int))))) (gIf (0≤k_∧k_<((b.2.2.2.2.2.1.length:Nat):Int)) (gIf ((([]:List (yaJ)).length+(((((List.getD b.2.2.2.2.2.1 k_.toNat (Va.dflt yal)).2).2).2).1).length)*56≤70368744177664) (gIf ((f_.2.2.2.2.2.1.length+1)*224≤70368744177664) (J6 n m1 m (i,(IntKind.i64.wrap (k_+(1:Int))),s_,b2,(f_.1,(f_.2.1,(f_.2.2.1,(f_.2.2.2.1,(f_.2.2.2.2.1,((f_.2.2.2.2.2.1++([(b.1,((⟨#[]⟩:ByteArray),((0,(false,(0,(0,((List.replicate 32 0),(0,((0,(0,(false,()))),([],())))))))),(((List.getD b.2.2.2.2.2.1 k_.toNat (Va.dflt yal)).1,(((List.getD b.2.2.2.2.2.1 k_.toNat (Va.dflt yal)).2).1,((((List.getD b.2.2.2.2.2.1 k_.toNat (Va.dflt yal)).2).2).1,((([]:List (yaJ))++(((((List.getD b.2.2.2.2.2.1 k_.toNat (Va.dflt yal)).2).2).2).1)),((((List.getD b.2.2.2.2.2.1 k_.toNat (Va.dflt yal)).2).2).2).2)))),()))))]:List (D_ref15_Row))),f_.2.2.2.2.2.2)))))),b,()))))) (J7 n m1 (i,s_,b2,f_,())):=(yac _).trans (by kernel_rfl)
theorem e7 (n m1:Nat)(i:Int)(s_:yaf)(b2:yaz)(f_:yaz):J7 n m1 (i,s_,b2,f_,())=J1 n m1 ((IntKind.i64.wrap (i+(1:Int))),s_,b2,f_,()):=(yac _).trans (by kernel_rfl)
theorem e8 (n:Nat)(b2:yaz)(f_:yaz):J8 n (b2,f_,())=some (f_,()):=(yac _).trans (by kernel_rfl)
theorem ok (n:Nat):FnOk Tryz.prog 14 ia io (fRun (X n) n T Tryz.f14 ia io):=yaA mixed tabIs (yas) Tryz.func14 (by kernel_rfl) rfl
def en (n:Nat):Entry:=yaw 14 ia io (fRun (X n) n T Tryz.f14 ia io)
end ya9
end
end Go.Proofs.YtemhlkdingkjnaaGreatDoor
namespace Go.Proofs.YtemhlkdingkjnaaGreatDoor
open Go Go.Va Go.Proofs
abbrev Mny:Nat:=1073741824
section
variable {n:Nat}
def rawB (b:yab):Nat:=(b.2.2.2.2.1.flatMap λo=>o.2.1).length+(b.2.2.2.2.2.1.flatMap λu=>u.2.2.2.1).length
def rawS (l:List yab):Nat:=(l.map rawB).sum
structure Fit (n:Nat)(b:yab):Prop where
  ol:b.2.2.2.2.1.length<n∧b.2.2.2.2.1.length<536870912
  ob:∀ o∈b.2.2.2.2.1,o.2.1.length<n∧o.2.1.length<536870912
  ul:b.2.2.2.2.2.1.length<n∧b.2.2.2.2.2.1.length<536870912
  up:∀ u∈b.2.2.2.2.2.1,u.2.2.2.1.length<n∧u.2.2.2.1.length<536870912
theorem fit_of (hn:n≤536870912){b:yab}(h:BkS n b):Fit n b:=by
  have h1:=h.ol
  have h2:=h.ul
  exact⟨⟨by omega,by omega⟩,λo ho=>by have:=(h.ob o ho).list.len;exact⟨by omega,by omega⟩,⟨by omega,by omega⟩,λu hu=>by have:=(h.up u hu).ps;exact⟨by omega,by omega⟩⟩
structure CoS (n:Nat)(s:yaf):Prop extends StS n s where
  raw:rawS s.2.2.2.1<n
  pd:∀ b∈s.2.2.2.1,∀ u∈b.2.2.2.2.2.1,∀ p∈u.2.2.2.1,p.2.2.2.1.length=32
abbrev Row:Type:=D_ref15_Row
def noUp:yan:=(0,(⟨#[]⟩,([],([],()))))
def noVer:yak:=(0,(false,(0,(0,(List.replicate 32 0,(0,((0,(0,(false,()))),([],()))))))))
def rowV (b:yab)(o:yad)(v:Ver):Row:=(b.1,(o.1,(v,(noUp,()))))
def rowU (b:yab)(u:yan):Row:=(b.1,(⟨#[]⟩,(noVer,(u,()))))
def rowsV (b:yab):List Row:=b.2.2.2.2.1.flatMap λo=>o.2.1.map (rowV b o)
def rowsU (b:yab):List Row:=b.2.2.2.2.2.1.map (rowU b)
def bare (b:yab):yab:=(b.1,(b.2.1,(b.2.2.1,(b.2.2.2.1,([],([],()))))))
abbrev Flat:Type:=yaz
def addV (f:Flat)(l:List Row):Flat:=(f.1,(f.2.1,(f.2.2.1,(f.2.2.2.1,(f.2.2.2.2.1++l,(f.2.2.2.2.2.1,()))))))
def addU (f:Flat)(l:List Row):Flat:=(f.1,(f.2.1,(f.2.2.1,(f.2.2.2.1,(f.2.2.2.2.1,(f.2.2.2.2.2.1++l,()))))))
def addB (f:Flat)(l:List yab):Flat:=(f.1,(f.2.1,(f.2.2.1,(f.2.2.2.1++l,(f.2.2.2.2.1,(f.2.2.2.2.2.1,()))))))
theorem addV_nil (f:Flat):addV f []=f:=by unfold addV;rw[List.append_nil]
theorem addU_nil (f:Flat):addU f []=f:=by unfold addU;rw[List.append_nil]
theorem addV_app (f:Flat)(a b:List Row):addV (addV f a) b=addV f (a++b):=by unfold addV;rw[List.append_assoc]
theorem addU_app (f:Flat)(a b:List Row):addU (addU f a) b=addU f (a++b):=by unfold addU;rw[List.append_assoc]
theorem from_vers (p q:Nat)(i:Int)(s:yaf)(b2:Flat)(b:yab)(kk:Nat)(hk0:kk<b.2.2.2.2.1.length)(o:yad)(hoo:b.2.2.2.2.1.getD kk (Va.dflt yag)=o)(hl:o.2.1.length<536870912):∀ (m k:Nat) (f:Flat),k≤o.2.1.length→o.2.1.length-k<m→f.2.2.2.2.1.length+(o.2.1.drop k).length<Mny →
    ya9.J3 n p q m (i,(kk:Int),(k:Int),s,b2,f,b,())=ya9.J4 n p q (i,(kk:Int),s,b2,addV f ((o.2.1.drop k).map (rowV b o)),b,())
  | 0,k,_,_,h,_=>by omega
  | m + 1,k,f,hk,h,ho=>by
    have ih:=λf=>from_vers p q i s b2 b kk hk0 o hoo hl m (k+1) f
    have eta:∀ f:Flat,(f.1,(f.2.1,(f.2.2.1,(f.2.2.2.1,(f.2.2.2.2.1,(f.2.2.2.2.2.1,f.2.2.2.2.2.2))))))=f:=λ_=>rfl
    have hgk:(0≤(kk:Int)∧(kk:Int)<((b.2.2.2.2.1.length:Nat):Int)):=⟨by omega,by omega⟩
    rw[ya9.e3,yaq hgk]
    simp only[yaS,Int.toNat_natCast,eta,hoo]
    by_cases hlt:k<o.2.1.length
    · rw[ycA (Va.dflt yae) hlt]at ho ⊢
      rw[List.length_cons]at ho
      have ho:f.2.2.2.2.1.length+((o.2.1.drop (k+1)).length+1)<1073741824:=ho
      rw[decide_eq_true (show (k:Int)<((o.2.1.length:Nat):Int) by omega),yap,yaq hgk,yaq hgk,yaq ⟨by omega,by omega⟩,yaq (by omega),ya7 k (by omega),List.map_cons]
      have:=ih (addV f [rowV b o (o.2.1.getD k (Va.dflt yae))]) (by omega) (by omega) (by change (f.2.2.2.2.1++_).length+_<1073741824;rw[List.length_append,List.length_singleton];omega)
      rw[addV_app,List.singleton_append]at this
      exact this
    · rw[decide_eq_false (show ¬ (k:Int)<((o.2.1.length:Nat):Int) by omega),yam,List.drop_eq_nil_of_le (by omega),List.map_nil,addV_nil]
theorem from_objs (p:Nat)(i:Int)(s:yaf)(b2:Flat)(b:yab)(hb:Fit n b):∀ (m k:Nat) (f:Flat),k≤b.2.2.2.2.1.length→b.2.2.2.2.1.length-k<m→f.2.2.2.2.1.length+((b.2.2.2.2.1.drop k).flatMap λo=>o.2.1).length<Mny →
    ya9.J2 n p m (i,(k:Int),s,b2,f,b,())=ya9.J5 n p (i,s,b2,addV f ((b.2.2.2.2.1.drop k).flatMap λo=>o.2.1.map (rowV b o)),b,())
  | 0,k,_,_,h,_=>by omega
  | m + 1,k,f,hk,h,ho=>by
    have hol:=hb.ol.2
    rw[ya9.e2]
    simp only[yaS]
    by_cases hlt:k<b.2.2.2.2.1.length
    · have hx:=hb.ob _ (ybr (d:=Va.dflt yag) hlt)
      rw[ycA (Va.dflt yag) hlt]at ho ⊢
      rw[List.flatMap_cons,List.length_append]at ho
      have ho:f.2.2.2.2.1.length+((b.2.2.2.2.1.getD k (Va.dflt yag)).2.1.length+((b.2.2.2.2.1.drop (k+1)).flatMap λo=>o.2.1).length)<1073741824:=ho
      have h3:=from_vers (n:=n) p m i s b2 b k hlt _ rfl hx.2 n 0 f (by omega) (by omega) (by rw[List.drop_zero];show _<1073741824;omega)
      rw[show ((0:Nat):Int)=0 from rfl,List.drop_zero]at h3
      rw[decide_eq_true (show (k:Int)<((b.2.2.2.2.1.length:Nat):Int) by omega),yap,List.flatMap_cons]
      change ya9.J3 n p m n (i,(k:Int),0,s,b2,f,b,())=_
      rw[h3,ya9.e4,ya7 k (by omega)]
      have:=from_objs p i s b2 b hb m (k+1) (addV f ((b.2.2.2.2.1.getD k (Va.dflt yag)).2.1.map (rowV b (b.2.2.2.2.1.getD k (Va.dflt yag))))) (by omega) (by omega) (by change (f.2.2.2.2.1++_).length+_<1073741824;rw[List.length_append,List.length_map];omega)
      rw[addV_app]at this
      exact this
    · rw[decide_eq_false (show ¬ (k:Int)<((b.2.2.2.2.1.length:Nat):Int) by omega),yam,List.drop_eq_nil_of_le (by omega),List.flatMap_nil,addV_nil]
theorem from_ups (p:Nat)(i:Int)(s:yaf)(b2:Flat)(b:yab)(hb:Fit n b):∀ (m k:Nat) (f:Flat),k≤b.2.2.2.2.2.1.length→b.2.2.2.2.2.1.length-k<m→f.2.2.2.2.2.1.length+(b.2.2.2.2.2.1.drop k).length<Mny →
    ya9.J6 n p m (i,(k:Int),s,b2,f,b,())=ya9.J7 n p (i,s,b2,addU f ((b.2.2.2.2.2.1.drop k).map (rowU b)),())
  | 0,k,_,_,h,_=>by omega
  | m + 1,k,f,hk,h,ho=>by
    have hul:=hb.ul.2
    rw[ya9.e6]
    simp only[yaS]
    by_cases hlt:k<b.2.2.2.2.2.1.length
    · have hx:=hb.up _ (ybr (d:=Va.dflt yal) hlt)
      rw[ycA (Va.dflt yal) hlt]at ho ⊢
      rw[List.length_cons]at ho
      have ho:f.2.2.2.2.2.1.length+((b.2.2.2.2.2.1.drop (k+1)).length+1)<1073741824:=ho
      rw[decide_eq_true (show (k:Int)<((b.2.2.2.2.2.1.length:Nat):Int) by omega),yap,yaq ⟨by omega,by omega⟩,Int.toNat_natCast,List.map_cons,ya7 k (by omega)]
      generalize b.2.2.2.2.2.1.getD k (Va.dflt yal)=u at hx
      have hx2:=hx.2
      rw[yaq (by rw[List.length_nil];omega),yaq (by omega),List.nil_append]
      have:=from_ups p i s b2 b hb m (k+1) (addU f [rowU b u]) (by omega) (by omega) (by change (f.2.2.2.2.2.1++_).length+_<1073741824;rw[List.length_append,List.length_singleton];omega)
      rw[addU_app,List.singleton_append]at this
      exact this
    · rw[decide_eq_false (show ¬ (k:Int)<((b.2.2.2.2.2.1.length:Nat):Int) by omega),yam,List.drop_eq_nil_of_le (by omega),List.map_nil,addU_nil]
theorem rowsV_len (b:yab):(rowsV b).length=(b.2.2.2.2.1.flatMap λo=>o.2.1).length:=by
  unfold rowsV
  generalize b.2.2.2.2.1=l
  induction l with
  | nil=>rfl
  | cons o l ih=>rw[List.flatMap_cons,List.flatMap_cons,List.length_append,List.length_append,ih,List.length_map]
def addA (f:Flat)(b:yab):Flat:=addU (addV (addB f [bare b]) (rowsV b)) (rowsU b)
def cntB (b:yab):Nat:=(b.2.2.2.2.1.flatMap λo=>o.2.1).length+b.2.2.2.2.2.1.length+1
def cntS (l:List yab):Nat:=(l.map cntB).sum
theorem from_bks (s:yaf) (b2:Flat) (hl:s.2.2.2.1.length<536870912) (hB:∀ b∈s.2.2.2.1,Fit n b):∀ (m k:Nat) (f:Flat),k≤s.2.2.2.1.length→s.2.2.2.1.length-k<m→f.2.2.2.1.length+f.2.2.2.2.1.length+f.2.2.2.2.2.1.length+cntS (s.2.2.2.1.drop k)<Mny →
    ya9.J1 n m ((k:Int),s,b2,f,())=some ((s.2.2.2.1.drop k).foldl addA f,())
  | 0,k,_,_,h,_=>by omega
  | m + 1,k,f,hk,h,ho=>by
    rw[ya9.e1]
    simp only[yaS]
    by_cases hlt:k<s.2.2.2.1.length
    · have hx:=hB _ (ybr (d:=Va.dflt yaa) hlt)
      rw[ycA (Va.dflt yaa) hlt]at ho ⊢
      unfold cntS at ho
      rw[List.map_cons,List.sum_cons]at ho
      have ho:f.2.2.2.1.length+f.2.2.2.2.1.length+f.2.2.2.2.2.1.length+(cntB (s.2.2.2.1.getD k (Va.dflt yaa))+cntS (s.2.2.2.1.drop (k+1)))<1073741824:=ho
      rw[decide_eq_true (show (k:Int)<((s.2.2.2.1.length:Nat):Int) by omega),yap,yaq ⟨by omega,by omega⟩,Int.toNat_natCast,List.foldl_cons]
      generalize s.2.2.2.1.getD k (Va.dflt yaa)=b at hx ho
      have hcb:cntB b=(b.2.2.2.2.1.flatMap λo=>o.2.1).length+b.2.2.2.2.2.1.length+1:=rfl
      rw[yaq (by omega)]
      change ya9.J2 n m n ((k:Int),((0:Nat):Int),s,b2,addB f [bare b],b,())=_
      have hv:=rowsV_len b
      rw[from_objs (n:=n) m (k:Int) s b2 b hx n 0 _ (by omega) (by have:=hx.ol.1;omega) (by rw[List.drop_zero];change f.2.2.2.2.1.length+_<1073741824;omega),List.drop_zero,ya9.e5]
      change ya9.J6 n m n ((k:Int),((0:Nat):Int),s,b2,addV (addB f [bare b]) (rowsV b),b,())=_
      rw[from_ups (n:=n) m (k:Int) s b2 b hx n 0 _ (by omega) (by have:=hx.ul.1;omega) (by rw[List.drop_zero];change f.2.2.2.2.2.1.length+_<1073741824;omega),List.drop_zero,ya9.e7,ya7 k (by omega)]
      exact from_bks s b2 hl hB m (k+1) (addA f b) (by omega) (by omega) (by
        change (f.2.2.2.1++[bare b]).length+(f.2.2.2.2.1++rowsV b).length+(f.2.2.2.2.2.1++rowsU b).length+_<1073741824
        unfold rowsU
        rw[List.length_append,List.length_append,List.length_append,List.length_singleton,List.length_map,hv]
        omega)
    · rw[decide_eq_false (show ¬ (k:Int)<((s.2.2.2.1.length:Nat):Int) by omega),yam,ya9.e8,List.drop_eq_nil_of_le (by omega)];rfl
def flatS (s:yaf):Flat:=(s.1,(s.2.1,(s.2.2.1,(s.2.2.2.1.map bare,(s.2.2.2.1.flatMap rowsV,(s.2.2.2.1.flatMap rowsU,()))))))
theorem fold_addA:∀ (l:List yab) (f:Flat),l.foldl addA f=(f.1,(f.2.1,(f.2.2.1,(f.2.2.2.1++l.map bare,(f.2.2.2.2.1++l.flatMap rowsV,(f.2.2.2.2.2.1++l.flatMap rowsU,()))))))
  | [],f=>by simp
  | b::l,f=>by
    rw[List.foldl_cons,fold_addA l]
    unfold addA addU addV addB
    simp only[List.map_cons,List.flatMap_cons,List.append_assoc,List.singleton_append]
theorem cnt_le (l:List yab):cntS l=(l.flatMap idsB).length+l.length:=by
  have hi:∀ b,(idsB b).length+1=cntB b:=λb=>by
    unfold idsB cntB
    rw[List.length_append,ups_len]
    have:(b.2.2.2.2.1.flatMap idsO).length=(b.2.2.2.2.1.flatMap λo=>o.2.1).length:=by
      generalize b.2.2.2.2.1=l
      induction l with
      | nil=>rfl
      | cons o l ih=>
        rw[List.flatMap_cons,List.flatMap_cons,List.length_append,List.length_append,ih]
        unfold idsO;rw[List.length_map]
    omega
  unfold cntS
  induction l with
  | nil=>rfl
  | cons b l ih=>
    rw[List.map_cons,List.sum_cons,ih,List.flatMap_cons,List.length_append,List.length_cons,← hi b]
    omega
theorem ref15_From (hn:n≤536870912){s:yaf}(hs:StS n s):ya9.f n s=some (flatS s,()):=by
  have hl:=hs.len
  have hf:=hs.few
  rw[ya9.e0]
  change ya9.J1 n n (((0:Nat):Int),s,_,(s.1,(s.2.1,(s.2.2.1,([],([],([],())))))),())=_
  rw[from_bks (n:=n) s _ (by omega) (λb hb=>fit_of hn (hs.bk b hb)) n 0 _ (by omega) (by omega) (by
    rw[List.drop_zero,cnt_le]
    show 0+0+0+_<1073741824
    omega),List.drop_zero,fold_addA]
  rfl
end
end Go.Proofs.YtemhlkdingkjnaaGreatDoor
namespace Go.Va
def bsF (lt:Nat→Bool):Nat→Nat→Nat→Nat
  | 0,i,_=>i
  | m+1,i,j=>if i<j then (if lt ((i+j)/2)=true then bsF lt m ((i+j)/2+1) j else bsF lt m i ((i+j)/2)) else i
theorem bsF_le (lt:Nat→Bool):∀ (m i j:Nat),i≤j→i≤bsF lt m i j∧bsF lt m i j≤j
  | 0,i,j,h=>⟨Nat.le_refl _,h⟩
  | m + 1,i,j,h=>by
    unfold bsF
    split
    · split
      · have:=bsF_le lt m ((i+j)/2+1) j (by omega)
        omega
      · have:=bsF_le lt m i ((i+j)/2) (by omega)
        omega
    · exact⟨Nat.le_refl _,h⟩
theorem bsF_is (lt:Nat→Bool) (len:Nat) (hm:∀ a b,a≤b→b<len→lt b=true→lt a=true):∀ (m i j:Nat),i≤j→j≤len→j-i<m→(∀ k,k<i→lt k=true)→(∀ k,j≤k→k<len→lt k=false) →
    (∀ k,k<bsF lt m i j→lt k=true)∧∀ k,bsF lt m i j≤k→k<len→lt k=false
  | 0,i,j,_,_,h,_,_=>by omega
  | m + 1,i,j,hij,hj,h,h1,h2=>by
    unfold bsF
    split
    · next hlt=>
      split
      · next hh=>
        refine bsF_is lt len hm m _ j (by omega) hj (by omega) (λk hk=>hm k ((i+j)/2) (by omega) (by omega) hh) h2
      · next hh=>
        have hh:lt ((i+j)/2)=false:=by simpa using hh
        refine bsF_is lt len hm m i _ (by omega) (by omega) (by omega) h1 (λk hk hkl => ?_)
        cases hk2:lt k with
        | false=>rfl
        | true=>rw[hm _ k hk hkl hk2]at hh;exact nomatch hh
    · next hlt=>
      have:i=j:=by omega
      subst this
      exact⟨h1,h2⟩
end Go.Va
namespace Go.Proofs.YtemhlkdingkjnaaGreatDoor
open Go Go.Va Go.Proofs Go.Lib Go.Sort
abbrev Spot:Type:=ybc
abbrev SMap:Type:=List (Spot×yak)
def ltSp (x y:Spot):Bool:=ltS x.1 y.1||(eqS x.1 y.1&&(ltS x.2.1 y.2.1||(eqS x.2.1 y.2.1&&decide (x.2.2.1<y.2.2.1))))
theorem eqOf {a b:ByteArray}(e:eqS a b=true):a=b:=by rw[eqS_eq,ba_beq]at e;exact of_decide_eq_true e
def LtP (x y:Spot):Prop:=ltS x.1 y.1=true∨(x.1=y.1∧(ltS x.2.1 y.2.1=true∨(x.2.1=y.2.1∧x.2.2.1<y.2.2.1)))
theorem lt_iff {x y:Spot}:ltSp x y=true↔LtP x y:=by
  unfold ltSp LtP
  rw[Bool.or_eq_true,Bool.and_eq_true,Bool.or_eq_true,Bool.and_eq_true,decide_eq_true_eq]
  constructor
  · rintro (h | ⟨h1,h | ⟨h2,h3⟩⟩)
    · exact .inl h
    · exact .inr ⟨eqOf h1,.inl h⟩
    · exact .inr ⟨eqOf h1,.inr ⟨eqOf h2,h3⟩⟩
  · rintro (h | ⟨h1,h | ⟨h2,h3⟩⟩)
    · exact .inl h
    · exact .inr ⟨by rw[h1,ycV],.inl h⟩
    · exact .inr ⟨by rw[h1,ycV],.inr ⟨by rw[h2,ycV],h3⟩⟩
theorem ltS_three (a b:ByteArray):ltS a b=true∨a=b∨ltS b a=true:=by
  have h:=ltS_tri a b
  cases h1:ltS b a with
  | true=>exact .inr (.inr rfl)
  | false=>
    cases h2:eqS b a with
    | true=>exact .inr (.inl (eqOf h2).symm)
    | false=>rw[h1,h2]at h;exact .inl h
theorem LtP.trans {x y z:Spot} (h:LtP x y) (k:LtP y z):LtP x z:=by
  rcases h with h | ⟨h1,h⟩
  · rcases k with k | ⟨k1,_⟩
    · exact .inl (ltS_trans h k)
    · exact .inl (k1 ▸ h)
  · rcases k with k | ⟨k1,k⟩
    · exact .inl (h1 ▸ k)
    · refine .inr ⟨h1.trans k1,?_⟩
      rcases h with h | ⟨h2,h⟩
      · rcases k with k | ⟨k2,_⟩
        · exact .inl (ltS_trans h k)
        · exact .inl (k2 ▸ h)
      · rcases k with k | ⟨k2,k⟩
        · exact .inl (h2 ▸ k)
        · exact .inr ⟨h2.trans k2,by omega⟩
theorem LtP.irr (x:Spot):¬ LtP x x:=by
  rintro (h | ⟨_,h | ⟨_,h⟩⟩)
  · rw[ltS_irr]at h;exact nomatch h
  · rw[ltS_irr]at h;exact nomatch h
  · omega
theorem LtP.or {x z:Spot} (h:LtP x z) (y:Spot):LtP x y∨LtP y z:=by
  rcases ltS_three x.1 y.1 with h1 | h1 | h1
  · exact .inl (.inl h1)
  · rcases h with h | ⟨h2,h⟩
    · exact .inr (.inl (h1 ▸ h))
    · rcases ltS_three x.2.1 y.2.1 with g1 | g1 | g1
      · exact .inl (.inr ⟨h1,.inl g1⟩)
      · rcases h with h | ⟨h3,h⟩
        · exact .inr (.inr ⟨h1.symm.trans h2,.inl (g1 ▸ h)⟩)
        · rcases Int.lt_or_le x.2.2.1 y.2.2.1 with q | q
          · exact .inl (.inr ⟨h1,.inr ⟨g1,q⟩⟩)
          · exact .inr (.inr ⟨h1.symm.trans h2,.inr ⟨g1.symm.trans h3,by omega⟩⟩)
      · rcases h with h | ⟨h3,h⟩
        · exact .inr (.inr ⟨h1.symm.trans h2,.inl (ltS_trans g1 h)⟩)
        · exact .inr (.inr ⟨h1.symm.trans h2,.inl (h3 ▸ g1)⟩)
  · rcases h with h | ⟨h2,_⟩
    · exact .inr (.inl (ltS_trans h1 h))
    · exact .inr (.inl (h2 ▸ h1))
theorem swo_Sp:SWO ltSp:=by
  refine⟨λx => ?_,λx y z h1 h2 => ?_,λx y z h1 h2 => ?_⟩
  · cases h:ltSp x x with
    | false=>rfl
    | true=>exact absurd (lt_iff.1 h) (LtP.irr x)
  · exact lt_iff.2 ((lt_iff.1 h1).trans (lt_iff.1 h2))
  · cases h:ltSp x z with
    | false=>rfl
    | true=>
      rcases (lt_iff.1 h).or y with k | k
      · rw[lt_iff.2 k]at h1;exact nomatch h1
      · rw[lt_iff.2 k]at h2;exact nomatch h2
def cmp3 (a b:ByteArray):Int:=if ltS a b=true then -1 else if (ltS a b||eqS a b)=true then 0 else 1
def or3 (a b c:Int):Int:=if a≠0 then a else if b≠0 then b else c
def cmpSp (x y:Spot):Int:=or3 (cmp3 x.1 y.1) (cmp3 x.2.1 y.2.1) (Lib.compareInt x.2.2.1 y.2.2.1)
theorem cmpSp_neg (x y:Spot):ltSp x y=decide (cmpSp x y<0):=by
  have hc:∀ a b:ByteArray,(cmp3 a b = -1∧ltS a b=true∧eqS a b=false)∨(cmp3 a b=0∧ltS a b=false∧eqS a b=true)∨(cmp3 a b=1∧ltS a b=false∧eqS a b=false):=λa b=>by
    unfold cmp3
    cases h1:ltS a b with
    | true=>
      left
      refine⟨rfl,rfl,?_⟩
      cases h2:eqS a b with
      | false=>rfl
      | true=>rw[eqOf h2,ltS_irr]at h1;exact nomatch h1
    | false=>cases h2:eqS a b<;>simp
  unfold ltSp cmpSp or3
  rcases hc x.1 y.1 with ⟨e1,e2,e3⟩ | ⟨e1,e2,e3⟩ | ⟨e1,e2,e3⟩
  · rw[e1,e2];rfl
  · rw[e1,e2,e3]
    rcases hc x.2.1 y.2.1 with ⟨f1,f2,f3⟩ | ⟨f1,f2,f3⟩ | ⟨f1,f2,f3⟩
    · rw[f1,f2];rfl
    · rw[f1,f2,f3]
      unfold Lib.compareInt
      by_cases h1:x.2.2.1<y.2.2.1
      · simp[h1]
      · by_cases h2:y.2.2.1<x.2.2.1<;>simp[h1,h2]
    · rw[f1,f2,f3];rfl
  · rw[e1,e2,e3];rfl
end Go.Proofs.YtemhlkdingkjnaaGreatDoor
namespace Go.Proofs.YtemhlkdingkjnaaGreatDoor
open Go Go.Va Go.Proofs
noncomputable section
namespace ycr
abbrev ia:List Ai:=[.dat (.slice yav)]
abbrev io:List (Nat×Oi):=[(2,.dat (.slice yav))]
abbrev R:Type:=DOut ia io
def X (n:Nat):Ctx:=⟨⟨tab,[],0,[]⟩,9,bnOf 0 ia⟩
def T:CT := .o
def f (n:Nat)(s_:List (yaE)):Option R:=fRun (X n) n T Tryz.f114 ia io (s_,())
theorem e0 (n:Nat)(s_:List (yaE)):f n s_=gIf (0≤((s_.length:Nat):Int)∧((s_.length:Nat):Int)≤((s_.length:Nat):Int)) (gIf (0≤(0:Int)∧(0:Int)≤((s_.length:Nat):Int)) (gIf (((s_.length:Nat):Int)≤((s_.length:Nat):Int)∧((s_.length:Nat):Int)≤((s_.length:Nat):Int)∧true=true) (some (((s_.take (((s_.length:Nat):Int).toNat)).drop 0),())))):=(yac _).trans (by kernel_rfl)
theorem ok (n:Nat):FnOk Tryz.prog 114 ia io (fRun (X n) n T Tryz.f114 ia io):=yaA mixed tabIs (yas) Tryz.func114 (by kernel_rfl) rfl
def en (n:Nat):Entry:=yaw 114 ia io (fRun (X n) n T Tryz.f114 ia io)
end ycr
namespace ycx
abbrev ia:List Ai:=[.dat (.slice yar)]
abbrev io:List (Nat×Oi):=[(2,.dat (.slice yar))]
abbrev R:Type:=DOut ia io
def X (n:Nat):Ctx:=⟨⟨tab,[],0,[]⟩,9,bnOf 0 ia⟩
def T:CT := .o
def f (n:Nat)(s_:List (yaI)):Option R:=fRun (X n) n T Tryz.f179 ia io (s_,())
theorem e0 (n:Nat)(s_:List (yaI)):f n s_=gIf (0≤((s_.length:Nat):Int)∧((s_.length:Nat):Int)≤((s_.length:Nat):Int)) (gIf (0≤(0:Int)∧(0:Int)≤((s_.length:Nat):Int)) (gIf (((s_.length:Nat):Int)≤((s_.length:Nat):Int)∧((s_.length:Nat):Int)≤((s_.length:Nat):Int)∧true=true) (some (((s_.take (((s_.length:Nat):Int).toNat)).drop 0),())))):=(yac _).trans (by kernel_rfl)
theorem ok (n:Nat):FnOk Tryz.prog 179 ia io (fRun (X n) n T Tryz.f179 ia io):=yaA mixed tabIs (yas) Tryz.func179 (by kernel_rfl) rfl
def en (n:Nat):Entry:=yaw 179 ia io (fRun (X n) n T Tryz.f179 ia io)
end ycx
namespace ycm
abbrev ia:List Ai:=[.dat (.slice yar)]
abbrev io:List (Nat×Oi):=[(2,.val (.r 0 yar))]
abbrev R:Type:=DOut ia io
def X (n:Nat):Ctx:=⟨⟨tab,[],0,[]⟩,8,bnOf 0 ia⟩
def T:CT := .o
def f (n:Nat)(s_:List (yaI)):Option R:=fRun (X n) n T Tryz.f180 ia io (s_,())
theorem e0 (n:Nat)(s_:List (yaI)):f n s_=bIf ((s_.length==0)) (bothC (some ([],())) (gIf ((([]:List (yaI)).length+s_.length)*32≤70368744177664) (some ((([]:List (yaI))++s_),())))) (gIf ((([]:List (yaI)).length+s_.length)*32≤70368744177664) (some ((([]:List (yaI))++s_),()))):=(yac _).trans (by kernel_rfl)
theorem ok (n:Nat):FnOk Tryz.prog 180 ia io (fRun (X n) n T Tryz.f180 ia io):=yaA mixed tabIs (yas) Tryz.func180 (by kernel_rfl) rfl
def en (n:Nat):Entry:=yaw 180 ia io (fRun (X n) n T Tryz.f180 ia io)
end ycm
namespace yb1
abbrev ia:List Ai:=[.dat (.slice yar)]
abbrev io:List (Nat×Oi):=[(2,.dat (.slice yar))]
abbrev R:Type:=DOut ia io
def X (n:Nat):Ctx:=⟨⟨tab,[ycx.en n,ycm.en n],0,[]⟩,6,bnOf 0 ia⟩
def T:CT := .o
def f (n:Nat)(list:List (yaI)):Option R:=fRun (X n) n T Tryz.f113 ia io (list,())
theorem e0 (n:Nat)(list:List (yaI)):f n list=bnd (ycm.f n list) λu1=>bnd (ycx.f n u1.1) λu2=>some (u2.1,()):=(yac _).trans (by kernel_rfl)
theorem ok (n:Nat):FnOk Tryz.prog 113 ia io (fRun (X n) n T Tryz.f113 ia io):=yaA mixed tabIs (yaj (yai (ycx.ok n)) (yaj (yai (ycm.ok n)) (yas))) Tryz.func113 (by kernel_rfl) rfl
def en (n:Nat):Entry:=yaw 113 ia io (fRun (X n) n T Tryz.f113 ia io)
end yb1
namespace ybi
abbrev ia:List Ai:=[.dat (.slice yav)]
abbrev io:List (Nat×Oi):=[(2,.dat (.slice yav))]
abbrev R:Type:=DOut ia io
def X (n:Nat):Ctx:=⟨⟨tab,[yb1.en n,ycr.en n],0,[]⟩,23,bnOf 0 ia⟩
abbrev g1:List Si:=[.val 3 (.r 200300 yav),.dat 6 (.slice yav),.dat 7 (.int .i64),.dat 8 (.int .i64)]
abbrev g2:List Si:=[.val 3 (.r 200300 yav)]
def T:CT:=(.s .o (.s .o (.s (.s .o (.b (.l g1 .o))) (.r g2 .o))))
def J1 (n:Nat)(m:Nat):(List (yaE))×(List (yaE))×Int×Int×Unit→Option R:=jL (X n) n T (yau Tryz.f70) (endK ia io) g1 [1,1,0,1,0] [] m
def J2 (n:Nat):(List (yaE))×Unit→Option R:=jR (X n) n T (yau Tryz.f70) (endK ia io) g2 [1,1,1] []
def f (n:Nat)(list:List (yaE)):Option R:=fRun (X n) n T Tryz.f70 ia io (list,())
theorem e0 (n:Nat)(list:List (yaE)):f n list=J1 n n ([],list,((list.length:Nat):Int),0,()):=(yac _).trans (by kernel_rfl)
theorem e1 (n m:Nat)(out:List (yaE))(t6:List (yaE))(t7:Int)(t8:Int):J1 n (m+1) (out,t6,t7,t8,())=bIf ((hide (decide (t8<t7)))) (gIf (0≤t8∧t8<((t6.length:Nat):Int)) (bnd (yb1.f n (((List.getD t6 t8.toNat (Va.dflt yav)).2).1)) λu1=>gIf ((out.length+1)*64≤70368744177664) (J1 n m ((out++([((List.getD t6 t8.toNat (Va.dflt yav)).1,(u1.1,((List.getD t6 t8.toNat (Va.dflt yav)).2).2))]:List (yaE))),t6,t7,(IntKind.i64.wrap (t8+(1:Int))),())))) (J2 n (out,())):=(yac _).trans (by kernel_rfl)
theorem e2 (n:Nat)(out:List (yaE)):J2 n (out,())=bnd (ycr.f n out) λu1=>some (u1.1,()):=(yac _).trans (by kernel_rfl)
theorem ok (n:Nat):FnOk Tryz.prog 70 ia io (fRun (X n) n T Tryz.f70 ia io):=yaA mixed tabIs (yaj (yai (yb1.ok n)) (yaj (yai (ycr.ok n)) (yas))) Tryz.func70 (by kernel_rfl) rfl
def en (n:Nat):Entry:=yaw 70 ia io (fRun (X n) n T Tryz.f70 ia io)
end ybi
namespace ycp
abbrev ia:List Ai:=[.dat (.slice yaK)]
abbrev io:List (Nat×Oi):=[(2,.dat (.slice yaK))]
abbrev R:Type:=DOut ia io
def X (n:Nat):Ctx:=⟨⟨tab,[],0,[]⟩,9,bnOf 0 ia⟩
def T:CT := .o
def f (n:Nat)(s_:List (yaJ)):Option R:=fRun (X n) n T Tryz.f116 ia io (s_,())
theorem e0 (n:Nat)(s_:List (yaJ)):f n s_=gIf (0≤((s_.length:Nat):Int)∧((s_.length:Nat):Int)≤((s_.length:Nat):Int)) (gIf (0≤(0:Int)∧(0:Int)≤((s_.length:Nat):Int)) (gIf (((s_.length:Nat):Int)≤((s_.length:Nat):Int)∧((s_.length:Nat):Int)≤((s_.length:Nat):Int)∧true=true) (some (((s_.take (((s_.length:Nat):Int).toNat)).drop 0),())))):=(yac _).trans (by kernel_rfl)
theorem ok (n:Nat):FnOk Tryz.prog 116 ia io (fRun (X n) n T Tryz.f116 ia io):=yaA mixed tabIs (yas) Tryz.func116 (by kernel_rfl) rfl
def en (n:Nat):Entry:=yaw 116 ia io (fRun (X n) n T Tryz.f116 ia io)
end ycp
namespace yca
abbrev ia:List Ai:=[.dat (.slice yaK)]
abbrev io:List (Nat×Oi):=[(2,.val (.r 0 yaK))]
abbrev R:Type:=DOut ia io
def X (n:Nat):Ctx:=⟨⟨tab,[],0,[]⟩,8,bnOf 0 ia⟩
def T:CT := .o
def f (n:Nat)(s_:List (yaJ)):Option R:=fRun (X n) n T Tryz.f117 ia io (s_,())
theorem e0 (n:Nat)(s_:List (yaJ)):f n s_=bIf ((s_.length==0)) (bothC (some ([],())) (gIf ((([]:List (yaJ)).length+s_.length)*56≤70368744177664) (some ((([]:List (yaJ))++s_),())))) (gIf ((([]:List (yaJ)).length+s_.length)*56≤70368744177664) (some ((([]:List (yaJ))++s_),()))):=(yac _).trans (by kernel_rfl)
theorem ok (n:Nat):FnOk Tryz.prog 117 ia io (fRun (X n) n T Tryz.f117 ia io):=yaA mixed tabIs (yas) Tryz.func117 (by kernel_rfl) rfl
def en (n:Nat):Entry:=yaw 117 ia io (fRun (X n) n T Tryz.f117 ia io)
end yca
namespace ybO
abbrev ia:List Ai:=[.dat yal]
abbrev io:List (Nat×Oi):=[(2,.cel (.d yal))]
abbrev R:Type:=DOut ia io
def X (n:Nat):Ctx:=⟨⟨tab,[yb1.en n,ycp.en n,yca.en n],0,[]⟩,13,bnOf 0 ia⟩
def T:CT := .o
def f (n:Nat)(u:yan):Option R:=fRun (X n) n T Tryz.f74 ia io (u,())
theorem e0 (n:Nat)(u:yan):f n u=bnd (yb1.f n u.2.2.1) λu1=>bnd (yca.f n u.2.2.2.1) λu2=>bnd (ycp.f n u2.1) λu3=>some ((u.1,(u.2.1,(u1.1,(u3.1,u.2.2.2.2)))),()):=(yac _).trans (by kernel_rfl)
theorem ok (n:Nat):FnOk Tryz.prog 74 ia io (fRun (X n) n T Tryz.f74 ia io):=yaA mixed tabIs (yaj (yai (yb1.ok n)) (yaj (yai (ycp.ok n)) (yaj (yai (yca.ok n)) (yas)))) Tryz.func74 (by kernel_rfl) rfl
def en (n:Nat):Entry:=yaw 74 ia io (fRun (X n) n T Tryz.f74 ia io)
end ybO
namespace yaD
abbrev ia:List Ai:=[.dat yae]
abbrev io:List (Nat×Oi):=[(2,.cel (.d yae))]
abbrev R:Type:=DOut ia io
def X (n:Nat):Ctx:=⟨⟨tab,[yb1.en n],0,[]⟩,8,bnOf 0 ia⟩
def T:CT := .o
def f (n:Nat)(v_:yak):Option R:=fRun (X n) n T Tryz.f78 ia io (v_,())
theorem e0 (n:Nat)(v_:yak):f n v_=bnd (yb1.f n v_.2.2.2.2.2.2.2.1) λu1=>some ((v_.1,(v_.2.1,(v_.2.2.1,(v_.2.2.2.1,(v_.2.2.2.2.1,(v_.2.2.2.2.2.1,(v_.2.2.2.2.2.2.1,(u1.1,v_.2.2.2.2.2.2.2.2)))))))),()):=(yac _).trans (by kernel_rfl)
theorem ok (n:Nat):FnOk Tryz.prog 78 ia io (fRun (X n) n T Tryz.f78 ia io):=yaA mixed tabIs (yaj (yai (yb1.ok n)) (yas)) Tryz.func78 (by kernel_rfl) rfl
def en (n:Nat):Entry:=yaw 78 ia io (fRun (X n) n T Tryz.f78 ia io)
end yaD
namespace ybP
abbrev ia:List Ai:=[.dat (.slice yae)]
abbrev io:List (Nat×Oi):=[(2,.dat (.slice yae))]
abbrev R:Type:=DOut ia io
def X (n:Nat):Ctx:=⟨⟨tab,[],0,[]⟩,9,bnOf 0 ia⟩
def T:CT := .o
def f (n:Nat)(s_:List (yak)):Option R:=fRun (X n) n T Tryz.f115 ia io (s_,())
theorem e0 (n:Nat)(s_:List (yak)):f n s_=gIf (0≤((s_.length:Nat):Int)∧((s_.length:Nat):Int)≤((s_.length:Nat):Int)) (gIf (0≤(0:Int)∧(0:Int)≤((s_.length:Nat):Int)) (gIf (((s_.length:Nat):Int)≤((s_.length:Nat):Int)∧((s_.length:Nat):Int)≤((s_.length:Nat):Int)∧true=true) (some (((s_.take (((s_.length:Nat):Int).toNat)).drop 0),())))):=(yac _).trans (by kernel_rfl)
theorem ok (n:Nat):FnOk Tryz.prog 115 ia io (fRun (X n) n T Tryz.f115 ia io):=yaA mixed tabIs (yas) Tryz.func115 (by kernel_rfl) rfl
def en (n:Nat):Entry:=yaw 115 ia io (fRun (X n) n T Tryz.f115 ia io)
end ybP
namespace ybB
abbrev ia:List Ai:=[.dat yag]
abbrev io:List (Nat×Oi):=[(2,.cel (.d yag))]
abbrev R:Type:=DOut ia io
def X (n:Nat):Ctx:=⟨⟨tab,[yaD.en n,ybP.en n],0,[]⟩,23,bnOf 0 ia⟩
abbrev g1:List Si:=[.ref 1 1 yag,.ref 2 2 yag,.val 3 (.r 200300 yae),.dat 7 (.slice yae),.dat 8 (.int .i64),.dat 9 (.int .i64),.box 1 (.d yag),.box 2 (.p (.d .str) (.p (.r 100000000002000 yae) (.d .unit)))]
abbrev g2:List Si:=[.ref 1 1 yag,.ref 2 2 yag,.val 3 (.r 200300 yae),.box 1 (.d yag),.box 2 (.p (.d .str) (.p (.r 100000000002000 yae) (.d .unit)))]
def T:CT:=(.s .o (.s .o (.s (.s .o (.b (.l g1 .o))) (.r g2 .o))))
def J1 (n:Nat)(m:Nat):(List (yak))×(List (yak))×Int×Int×yad×yad×Unit→Option R:=jL (X n) n T (yau Tryz.f73) (endK ia io) g1 [1,1,0,1,0] [] m
def J2 (n:Nat):(List (yak))×yad×yad×Unit→Option R:=jR (X n) n T (yau Tryz.f73) (endK ia io) g2 [1,1,1] []
def f (n:Nat)(o:yad):Option R:=fRun (X n) n T Tryz.f73 ia io (o,())
theorem e0 (n:Nat)(o:yad):f n o=J1 n n ([],o.2.1,((o.2.1.length:Nat):Int),0,o,((⟨#[]⟩:ByteArray),([],())),()):=(yac _).trans (by kernel_rfl)
theorem e1 (n m:Nat)(list:List (yak))(t7:List (yak))(t8:Int)(t9:Int)(o:yad)(b2:yad):J1 n (m+1) (list,t7,t8,t9,o,b2,())=bIf ((hide (decide (t9<t8)))) (gIf (0≤t9∧t9<((t7.length:Nat):Int)) (bnd (yaD.f n (List.getD t7 t9.toNat (Va.dflt yae))) λu1=>gIf ((list.length+1)*120≤70368744177664) (J1 n m ((list++([u1.1]:List (yak))),t7,t8,(IntKind.i64.wrap (t9+(1:Int))),o,b2,())))) (J2 n (list,o,b2,())):=(yac _).trans (by kernel_rfl)
theorem e2 (n:Nat)(list:List (yak))(o:yad)(b2:yad):J2 n (list,o,b2,())=bnd (ybP.f n list) λu1=>some ((o.1,(u1.1,o.2.2)),()):=(yac _).trans (by kernel_rfl)
theorem ok (n:Nat):FnOk Tryz.prog 73 ia io (fRun (X n) n T Tryz.f73 ia io):=yaA mixed tabIs (yaj (yai (yaD.ok n)) (yaj (yai (ybP.ok n)) (yas))) Tryz.func73 (by kernel_rfl) rfl
def en (n:Nat):Entry:=yaw 73 ia io (fRun (X n) n T Tryz.f73 ia io)
end ybB
namespace yci
abbrev ia:List Ai:=[.dat (.slice yaC)]
abbrev io:List (Nat×Oi):=[(2,.dat (.slice yaC))]
abbrev R:Type:=DOut ia io
def X (n:Nat):Ctx:=⟨⟨tab,[],0,[]⟩,9,bnOf 0 ia⟩
def T:CT := .o
def f (n:Nat)(s_:List (yaH)):Option R:=fRun (X n) n T Tryz.f71 ia io (s_,())
theorem e0 (n:Nat)(s_:List (yaH)):f n s_=gIf (0≤((s_.length:Nat):Int)∧((s_.length:Nat):Int)≤((s_.length:Nat):Int)) (gIf (0≤(0:Int)∧(0:Int)≤((s_.length:Nat):Int)) (gIf (((s_.length:Nat):Int)≤((s_.length:Nat):Int)∧((s_.length:Nat):Int)≤((s_.length:Nat):Int)∧true=true) (some (((s_.take (((s_.length:Nat):Int).toNat)).drop 0),())))):=(yac _).trans (by kernel_rfl)
theorem ok (n:Nat):FnOk Tryz.prog 71 ia io (fRun (X n) n T Tryz.f71 ia io):=yaA mixed tabIs (yas) Tryz.func71 (by kernel_rfl) rfl
def en (n:Nat):Entry:=yaw 71 ia io (fRun (X n) n T Tryz.f71 ia io)
end yci
namespace yb2
abbrev ia:List Ai:=[.dat (.slice yaC)]
abbrev io:List (Nat×Oi):=[(2,.val (.r 0 yaC))]
abbrev R:Type:=DOut ia io
def X (n:Nat):Ctx:=⟨⟨tab,[],0,[]⟩,8,bnOf 0 ia⟩
def T:CT := .o
def f (n:Nat)(s_:List (yaH)):Option R:=fRun (X n) n T Tryz.f72 ia io (s_,())
theorem e0 (n:Nat)(s_:List (yaH)):f n s_=bIf ((s_.length==0)) (bothC (some ([],())) (gIf ((([]:List (yaH)).length+s_.length)*56≤70368744177664) (some ((([]:List (yaH))++s_),())))) (gIf ((([]:List (yaH)).length+s_.length)*56≤70368744177664) (some ((([]:List (yaH))++s_),()))):=(yac _).trans (by kernel_rfl)
theorem ok (n:Nat):FnOk Tryz.prog 72 ia io (fRun (X n) n T Tryz.f72 ia io):=yaA mixed tabIs (yas) Tryz.func72 (by kernel_rfl) rfl
def en (n:Nat):Entry:=yaw 72 ia io (fRun (X n) n T Tryz.f72 ia io)
end yb2
namespace yaX
abbrev ia:List Ai:=[.dat yaa]
abbrev io:List (Nat×Oi):=[(2,.cel (.p (.d .str) (.p (.d ya4) (.p (.d (.slice yav)) (.p (.d (.slice yaC)) (.p (.r 0 yag) (.p (.r 0 yal) (.d .unit))))))))]
abbrev R:Type:=DOut ia io
def X (n:Nat):Ctx:=⟨⟨tab,[ybi.en n,yci.en n,yb2.en n,ybB.en n,ybO.en n],0,[]⟩,51,bnOf 0 ia⟩
abbrev g1:List Si:=[.ref 1 1 yaa,.ref 2 2 yaa,.ref 3 3 yaa,.dat 21 (.slice yag),.dat 22 (.int .i64),.dat 23 (.int .i64),.box 1 (.d yaa),.box 2 (.p (.d .str) (.p (.d ya4) (.p (.r 100000000002000 yav) (.p (.r 100000000002001 yaC) (.p (.r 100000000002002 yag) (.p (.r 100000000002003 yal) (.d .unit))))))),.box 3 (.p (.d .str) (.p (.d ya4) (.p (.d (.slice yav)) (.p (.d (.slice yaC)) (.p (.r 100000000003000 yag) (.p (.r 100000000003001 yal) (.d .unit)))))))]
abbrev g2:List Si:=[.ref 1 1 yaa,.ref 2 2 yaa,.ref 3 3 yaa,.box 1 (.d yaa),.box 2 (.p (.d .str) (.p (.d ya4) (.p (.r 100000000002000 yav) (.p (.r 100000000002001 yaC) (.p (.r 100000000002002 yag) (.p (.r 100000000002003 yal) (.d .unit))))))),.box 3 (.p (.d .str) (.p (.d ya4) (.p (.d (.slice yav)) (.p (.d (.slice yaC)) (.p (.r 100000000003000 yag) (.p (.r 100000000003001 yal) (.d .unit)))))))]
abbrev g3:List Si:=[.ref 2 2 yaa,.ref 3 3 yaa,.dat 36 (.slice yal),.dat 37 (.int .i64),.dat 38 (.int .i64),.box 2 (.p (.d .str) (.p (.d ya4) (.p (.r 100000000002000 yav) (.p (.r 100000000002001 yaC) (.p (.r 100000000002002 yag) (.p (.r 100000000002003 yal) (.d .unit))))))),.box 3 (.p (.d .str) (.p (.d ya4) (.p (.d (.slice yav)) (.p (.d (.slice yaC)) (.p (.r 100000000003000 yag) (.p (.r 100000000003001 yal) (.d .unit)))))))]
abbrev g4:List Si:=[.ref 2 2 yaa,.ref 3 3 yaa,.box 2 (.p (.d .str) (.p (.d ya4) (.p (.r 100000000002000 yav) (.p (.r 100000000002001 yaC) (.p (.r 100000000002002 yag) (.p (.r 100000000002003 yal) (.d .unit))))))),.box 3 (.p (.d .str) (.p (.d ya4) (.p (.d (.slice yav)) (.p (.d (.slice yaC)) (.p (.r 100000000003000 yag) (.p (.r 100000000003001 yal) (.d .unit)))))))]
def T:CT:=(.s .o (.s .o (.s (.s .o (.b (.l g1 .o))) (.r g2 (.s (.s .o (.b (.l g3 .o))) (.r g4 .o))))))
def J1 (n:Nat)(m:Nat):(List (yad))×Int×Int×yab×yab×yab×Unit→Option R:=jL (X n) n T (yau Tryz.f34) (endK ia io) g1 [1,1,0,1,0] [] m
def J2 (n:Nat):yab×yab×yab×Unit→Option R:=jR (X n) n T (yau Tryz.f34) (endK ia io) g2 [1,1,1] []
def J3 (n:Nat)(m:Nat):(List (yan))×Int×Int×yab×yab×Unit→Option R:=jL (X n) n T (yau Tryz.f34) (endK ia io) g3 [1,1,1,0,1,0] [] m
def J4 (n:Nat):yab×yab×Unit→Option R:=jR (X n) n T (yau Tryz.f34) (endK ia io) g4 [1,1,1,1] []
def f (n:Nat)(b:yab):Option R:=fRun (X n) n T Tryz.f34 ia io (b,())
theorem e0 (n:Nat)(b:yab):f n b=bnd (ybi.f n b.2.2.1) λu1=>bnd (yb2.f n b.2.2.2.1) λu2=>bnd (yci.f n u2.1) λu3=>J1 n n (b.2.2.2.2.1,((b.2.2.2.2.1.length:Nat):Int),0,b,((⟨#[]⟩:ByteArray),((0,(0,())),([],([],([],([],())))))),(b.1,(b.2.1,(u1.1,(u3.1,([],([],())))))),()):=(yac _).trans (by kernel_rfl)
theorem e1 (n m:Nat)(t21:List (yad))(t22:Int)(t23:Int)(b:yab)(b2:yab)(out:yab):J1 n (m+1) (t21,t22,t23,b,b2,out,())=bIf ((hide (decide (t23<t22)))) (gIf (0≤t23∧t23<((t21.length:Nat):Int)) (bnd (ybB.f n (List.getD t21 t23.toNat (Va.dflt yag))) λu1=>gIf ((out.2.2.2.2.1.length+1)*40≤70368744177664) (J1 n m (t21,t22,(IntKind.i64.wrap (t23+(1:Int))),b,b2,(out.1,(out.2.1,(out.2.2.1,(out.2.2.2.1,((out.2.2.2.2.1++([u1.1]:List (yad))),out.2.2.2.2.2))))),())))) (J2 n (b,b2,out,())):=(yac _).trans (by kernel_rfl)
theorem e2 (n:Nat)(b:yab)(b2:yab)(out:yab):J2 n (b,b2,out,())=J3 n n (b.2.2.2.2.2.1,((b.2.2.2.2.2.1.length:Nat):Int),0,b2,out,()):=(yac _).trans (by kernel_rfl)
theorem e3 (n m:Nat)(t36:List (yan))(t37:Int)(t38:Int)(b2:yab)(out:yab):J3 n (m+1) (t36,t37,t38,b2,out,())=bIf ((hide (decide (t38<t37)))) (gIf (0≤t38∧t38<((t36.length:Nat):Int)) (bnd (ybO.f n (List.getD t36 t38.toNat (Va.dflt yal))) λu1=>gIf ((out.2.2.2.2.2.1.length+1)*72≤70368744177664) (J3 n m (t36,t37,(IntKind.i64.wrap (t38+(1:Int))),b2,(out.1,(out.2.1,(out.2.2.1,(out.2.2.2.1,(out.2.2.2.2.1,((out.2.2.2.2.2.1++([u1.1]:List (yan))),out.2.2.2.2.2.2)))))),())))) (J4 n (b2,out,())):=(yac _).trans (by kernel_rfl)
theorem e4 (n:Nat)(b2:yab)(out:yab):J4 n (b2,out,())=some (out,()):=(yac _).trans (by kernel_rfl)
theorem ok (n:Nat):FnOk Tryz.prog 34 ia io (fRun (X n) n T Tryz.f34 ia io):=yaA mixed tabIs (yaj (yai (ybi.ok n)) (yaj (yai (yci.ok n)) (yaj (yai (yb2.ok n)) (yaj (yai (ybB.ok n)) (yaj (yai (ybO.ok n)) (yas)))))) Tryz.func34 (by kernel_rfl) rfl
def en (n:Nat):Entry:=yaw 34 ia io (fRun (X n) n T Tryz.f34 ia io)
end yaX
namespace yaF
abbrev ia:List Ai:=[.dat (.slice yaa),.dat yaa,.fn (.fn 33) []]
abbrev io:List (Nat×Oi):=[(6,.dat (.int .i64)),(7,.dat .bool)]
abbrev R:Type:=DOut ia io
def X (n:Nat):Ctx:=⟨⟨tab,[ybD.en n],0,[]⟩,49,bnOf 0 ia⟩
abbrev g1:List Si:=[.dat 0 (.slice yaa),.clo 2 (.fn 33) [],.ref 4 4 yaa,.dat 8 (.int .i64),.dat 9 (.int .i64),.dat 10 (.int .i64),.box 4 (.d yaa)]
abbrev g2:List Si:=[.dat 0 (.slice yaa),.clo 2 (.fn 33) [],.ref 4 4 yaa,.dat 8 (.int .i64),.dat 9 (.int .i64),.box 4 (.d yaa)]
def T:CT:=(.s .o (.s .o (.s .o (.s (.b (.l g1 .o)) (.r g2 .o)))))
def J1 (n:Nat)(m:Nat):(List (yab))×Int×Int×Int×yab×Unit→Option R:=jL (X n) n T (yau Tryz.f68) (endK ia io) g1 [1,1,1,0,0] [] m
def J2 (n:Nat):(List (yab))×Int×Int×yab×Unit→Option R:=jR (X n) n T (yau Tryz.f68) (endK ia io) g2 [1,1,1,1] []
def f (n:Nat)(x_:List (yab))(target:yab):Option R:=fRun (X n) n T Tryz.f68 ia io (x_,target,())
theorem e0 (n:Nat)(x_:List (yab))(target:yab):f n x_ target=J1 n n (x_,((x_.length:Nat):Int),0,((x_.length:Nat):Int),target,()):=(yac _).trans (by kernel_rfl)
theorem e1 (n m:Nat)(x_:List (yab))(n_:Int)(i:Int)(j:Int)(target:yab):J1 n (m+1) (x_,n_,i,j,target,())=bIf ((hide (decide (i<j)))) (gNo ((1:Int)<0) (gIf (0≤(IntKind.i64.wrap (shrI .u64 (IntKind.u64.wrap (IntKind.i64.wrap (i+j))) 1))∧(IntKind.i64.wrap (shrI .u64 (IntKind.u64.wrap (IntKind.i64.wrap (i+j))) 1))<((x_.length:Nat):Int)) (bnd (ybD.f n (List.getD x_ ((IntKind.i64.wrap (shrI .u64 (IntKind.u64.wrap (IntKind.i64.wrap (i+j))) 1)).toNat) (Va.dflt yaa)) target) λu1=>bIf ((hide (decide (u1.1<(0:Int))))) (J1 n m (x_,n_,(IntKind.i64.wrap ((IntKind.i64.wrap (shrI .u64 (IntKind.u64.wrap (IntKind.i64.wrap (i+j))) 1))+(1:Int))),j,target,())) (J1 n m (x_,n_,i,(IntKind.i64.wrap (shrI .u64 (IntKind.u64.wrap (IntKind.i64.wrap (i+j))) 1)),target,()))))) (J2 n (x_,n_,i,target,())):=(yac _).trans (by kernel_rfl)
theorem e2 (n:Nat)(x_:List (yab))(n_:Int)(i:Int)(target:yab):J2 n (x_,n_,i,target,())=bIf ((hide (decide (i<n_)))) (gIf (0≤i∧i<((x_.length:Nat):Int)) (bnd (ybD.f n (List.getD x_ i.toNat (Va.dflt yaa)) target) λu1=>some (i,(hide (u1.1==(0:Int))),()))) (some (i,false,())):=(yac _).trans (by kernel_rfl)
theorem ok (n:Nat):FnOk Tryz.prog 68 ia io (fRun (X n) n T Tryz.f68 ia io):=yaA mixed tabIs (yaj (yai (ybD.ok n)) (yas)) Tryz.func68 (by kernel_rfl) rfl
def en (n:Nat):Entry:=yaw 68 ia io (fRun (X n) n T Tryz.f68 ia io)
end yaF
namespace ycq
abbrev ia:List Ai:=[.dat (.slice yaa),.dat yaa,.fn (.fn 33) []]
abbrev io:List (Nat×Oi):=[(6,.dat (.int .i64)),(7,.dat .bool)]
abbrev R:Type:=DOut ia io
def X (n:Nat):Ctx:=⟨⟨tab,[yaF.en n],0,[]⟩,14,bnOf 0 ia⟩
def T:CT := .o
def f (n:Nat)(list:List (yab))(x_:yab):Option R:=fRun (X n) n T Tryz.f32 ia io (list,x_,())
theorem e0 (n:Nat)(list:List (yab))(x_:yab):f n list x_=bnd (yaF.f n list x_) λu1=>some (u1.1,u1.2.1,()):=(yac _).trans (by kernel_rfl)
theorem ok (n:Nat):FnOk Tryz.prog 32 ia io (fRun (X n) n T Tryz.f32 ia io):=yaA mixed tabIs (yaj (yai (yaF.ok n)) (yas)) Tryz.func32 (by kernel_rfl) rfl
def en (n:Nat):Entry:=yaw 32 ia io (fRun (X n) n T Tryz.f32 ia io)
end ycq
namespace ybA
abbrev ia:List Ai:=[.dat yah,.dat .str]
abbrev io:List (Nat×Oi):=[(4,.cel (.p (.d .str) (.p (.d ya4) (.p (.d (.slice yav)) (.p (.d (.slice yaC)) (.p (.r 0 yag) (.p (.r 0 yal) (.d .unit)))))))),(5,.dat (.int .i64))]
abbrev R:Type:=DOut ia io
def X (n:Nat):Ctx:=⟨⟨tab,[yco.en n,ycq.en n,yaX.en n],0,[]⟩,30,bnOf 0 ia⟩
abbrev g1:List Si:=[.ref 2 2 yah,.ref 4 4 yaa,.dat 6 (.int .i64),.dat 22 .bool,.box 2 (.d yah),.box 4 (.p (.d .str) (.p (.d ya4) (.p (.r 100000000004000 yav) (.p (.r 100000000004001 yaC) (.p (.r 100000000004002 yag) (.p (.r 100000000004003 yal) (.d .unit)))))))]
abbrev g2:List Si:=[.ref 2 2 yah,.ref 4 4 yaa,.dat 6 (.int .i64),.box 2 (.d yah),.box 4 (.p (.d .str) (.p (.d ya4) (.p (.r 100000000004000 yav) (.p (.r 100000000004001 yaC) (.p (.r 100000000004002 yag) (.p (.r 100000000004003 yal) (.d .unit)))))))]
def T:CT:=(.s .o (.s .o (.s (.s .o (.r g1 .o)) (.r g2 .o))))
def J1 (n:Nat):Int×Bool×yaf×yab×Unit→Option R:=jR (X n) n T (yau Tryz.f9) (endK ia io) g1 [1,1,0,1] []
def J2 (n:Nat):Int×yaf×yab×Unit→Option R:=jR (X n) n T (yau Tryz.f9) (endK ia io) g2 [1,1,1] []
def f (n:Nat)(s_:yaf)(name:ByteArray):Option R:=fRun (X n) n T Tryz.f9 ia io (s_,name,())
theorem e0 (n:Nat)(s_:yaf)(name:ByteArray):f n s_ name=bnd (ycq.f n s_.2.2.2.1 (name,((0,(0,())),([],([],([],([],()))))))) λu1=>bnd (yco.f n s_) λu2=>bIf ((!u2.1)) (J1 n (u1.1,true,s_,((⟨#[]⟩:ByteArray),((0,(0,())),([],([],([],([],())))))),())) (J1 n (u1.1,(!u1.2.1),s_,((⟨#[]⟩:ByteArray),((0,(0,())),([],([],([],([],())))))),())):=(yac _).trans (by kernel_rfl)
theorem e1 (n:Nat)(i:Int)(t22:Bool)(s_:yaf)(b4:yab):J1 n (i,t22,s_,b4,())=bIf (t22) (some (((⟨#[]⟩:ByteArray),((0,(0,())),([],([],([],([],())))))),7,())) (J2 n (i,s_,b4,())):=(yac _).trans (by kernel_rfl)
theorem e2 (n:Nat)(i:Int)(s_:yaf)(b4:yab):J2 n (i,s_,b4,())=gIf (0≤i∧i<((s_.2.2.2.1.length:Nat):Int)) (bnd (yaX.f n (List.getD s_.2.2.2.1 i.toNat (Va.dflt yaa))) λu1=>some (u1.1,0,())):=(yac _).trans (by kernel_rfl)
theorem ok (n:Nat):FnOk Tryz.prog 9 ia io (fRun (X n) n T Tryz.f9 ia io):=yaA mixed tabIs (yaj (yai (yco.ok n)) (yaj (yai (ycq.ok n)) (yaj (yai (yaX.ok n)) (yas)))) Tryz.func9 (by kernel_rfl) rfl
def en (n:Nat):Entry:=yaw 9 ia io (fRun (X n) n T Tryz.f9 ia io)
end ybA
end
end Go.Proofs.YtemhlkdingkjnaaGreatDoor
namespace Go.Proofs.YtemhlkdingkjnaaGreatDoor
open Go Go.Va Go.Proofs
section
variable {n:Nat}
theorem clip_Tag (l:List yaI):ycx.f n l=some (l,()):=by
  rw[ycx.e0,yaq ⟨by omega,by omega⟩,yaq ⟨by omega,by omega⟩,yaq ⟨by omega,by omega,rfl⟩]
  simp
theorem clip_Rule (l:List yaE):ycr.f n l=some (l,()):=by
  rw[ycr.e0,yaq ⟨by omega,by omega⟩,yaq ⟨by omega,by omega⟩,yaq ⟨by omega,by omega,rfl⟩]
  simp
theorem clip_Grant (l:List yaH):yci.f n l=some (l,()):=by
  rw[yci.e0,yaq ⟨by omega,by omega⟩,yaq ⟨by omega,by omega⟩,yaq ⟨by omega,by omega,rfl⟩]
  simp
theorem clip_Version (l:List yak):ybP.f n l=some (l,()):=by
  rw[ybP.e0,yaq ⟨by omega,by omega⟩,yaq ⟨by omega,by omega⟩,yaq ⟨by omega,by omega,rfl⟩]
  simp
theorem clip_Part (l:List yaJ):ycp.f n l=some (l,()):=by
  rw[ycp.e0,yaq ⟨by omega,by omega⟩,yaq ⟨by omega,by omega⟩,yaq ⟨by omega,by omega,rfl⟩]
  simp
theorem clone_any {α:Type}{l:List α}{c:Nat}(h:l.length*c≤70368744177664):bIf (l.length==0) (bothC (some (([]:List α),())) (gIf ((([]:List α).length+l.length)*c≤70368744177664) (some (([]:List α)++l,())))) (gIf ((([]:List α).length+l.length)*c≤70368744177664) (some (([]:List α)++l,())))=some (l,()):=by
  have hB:gIf ((([]:List α).length+l.length)*c≤70368744177664) (some (([]:List α)++l,()))=some (l,()):=by
    rw[yaq (by rw[List.length_nil,Nat.zero_add];exact h),List.nil_append]
  rw[hB]
  cases l with
  | nil=>rw[show (([]:List α).length==0)=true from rfl,yap,bothC_self]
  | cons x l=>rw[show ((x::l).length==0)=false from rfl,yam]
theorem clone_Tag {l:List yaI}(h:l.length≤536870912):ycm.f n l=some (l,()):=by
  rw[ycm.e0];exact clone_any (by omega)
theorem clone_Grant {l:List yaH}(h:l.length≤536870912):yb2.f n l=some (l,()):=by
  rw[yb2.e0];exact clone_any (by omega)
theorem clone_Part {l:List yaJ}(h:l.length≤536870912):yca.f n l=some (l,()):=by
  rw[yca.e0];exact clone_any (by omega)
theorem tags_Clone {l:List yaI}(h:l.length≤536870912):yb1.f n l=some (l,()):=by
  rw[yb1.e0,clone_Tag h,bnd_some,clip_Tag,bnd_some]
theorem clone_Version {v:yak}(h:v.2.2.2.2.2.2.2.1.length≤536870912):yaD.f n v=some (v,()):=by
  rw[yaD.e0,tags_Clone h,bnd_some]
theorem take_add {α:Type}{l:List α}{k:Nat}(d:α)(h:k<l.length):l.take k++[l.getD k d]=l.take (k+1):=by
  rw[List.take_succ_eq_append_getElem h,List.getD_eq_getElem?_getD,List.getElem?_eq_getElem h];rfl
theorem rules_J (l:List yaE)(hl:l.length<536870912)(ht:∀ r∈l,r.2.1.length≤536870912):∀ (m k:Nat),k≤l.length→l.length-k<m→ybi.J1 n m (l.take k,l,((l.length:Nat):Int),(k:Int),())=ybi.J2 n (l,())
  | 0,k,_,h=>by omega
  | m + 1,k,hk,h=>by
    rw[ybi.e1]
    simp only[yaS]
    by_cases hlt:k<l.length
    · rw[decide_eq_true (show (k:Int)<((l.length:Nat):Int) by omega),yap,yaq ⟨by omega,by omega⟩,Int.toNat_natCast,tags_Clone (ht _ (ybr hlt)),bnd_some,yaq (by rw[List.length_take];omega),ya7 k (by omega)]
      have e:=take_add (Va.dflt yav) hlt
      change ybi.J1 n m (l.take k++[l.getD k (Va.dflt yav)],l,_,_,())=_
      rw[e]
      exact rules_J l hl ht m (k+1) (by omega) (by omega)
    · rw[decide_eq_false (show ¬ (k:Int)<((l.length:Nat):Int) by omega),yam,List.take_of_length_le (by omega)]
theorem clone_Rules {l:List yaE}(hl:l.length<536870912)(hn:l.length<n)(ht:∀ r∈l,r.2.1.length≤536870912):ybi.f n l=some (l,()):=by
  rw[ybi.e0]
  have:=rules_J (n:=n) l hl ht n 0 (by omega) (by omega)
  rw[List.take_zero]at this
  exact this.trans (by rw[ybi.e2,clip_Rule,bnd_some])
theorem object_J (o b2:yad)(hl:o.2.1.length<536870912)(ht:∀ v∈o.2.1,v.2.2.2.2.2.2.2.1.length≤536870912):∀ (m k:Nat),k≤o.2.1.length→o.2.1.length-k<m→ybB.J1 n m (o.2.1.take k,o.2.1,((o.2.1.length:Nat):Int),(k:Int),o,b2,())=ybB.J2 n (o.2.1,o,b2,())
  | 0,k,_,h=>by omega
  | m + 1,k,hk,h=>by
    rw[ybB.e1]
    simp only[yaS]
    by_cases hlt:k<o.2.1.length
    · rw[decide_eq_true (show (k:Int)<((o.2.1.length:Nat):Int) by omega),yap,yaq ⟨by omega,by omega⟩,Int.toNat_natCast,clone_Version (ht _ (ybr hlt)),bnd_some,yaq (by rw[List.length_take];omega),ya7 k (by omega)]
      have e:=take_add (Va.dflt yae) hlt
      change ybB.J1 n m (o.2.1.take k++[o.2.1.getD k (Va.dflt yae)],o.2.1,_,_,o,b2,())=_
      rw[e]
      exact object_J o b2 hl ht m (k+1) (by omega) (by omega)
    · rw[decide_eq_false (show ¬ (k:Int)<((o.2.1.length:Nat):Int) by omega),yam,List.take_of_length_le (by omega)]
theorem clone_Object {o:yad}(hl:o.2.1.length<536870912)(hn:o.2.1.length<n)(ht:∀ v∈o.2.1,v.2.2.2.2.2.2.2.1.length≤536870912):ybB.f n o=some (o,()):=by
  rw[ybB.e0]
  have:=object_J (n:=n) o ((⟨#[]⟩:ByteArray),([],())) hl ht n 0 (by omega) (by omega)
  rw[List.take_zero]at this
  exact this.trans (by rw[ybB.e2,clip_Version,bnd_some])
theorem clone_Upload {u:yan}(h1:u.2.2.1.length≤536870912)(h2:u.2.2.2.1.length≤536870912):ybO.f n u=some (u,()):=by
  rw[ybO.e0,tags_Clone h1,bnd_some,clone_Part h2,bnd_some,clip_Part,bnd_some]
def outB (b:yab)(os:List yad)(us:List yan):yab:=(b.1,(b.2.1,(b.2.2.1,(b.2.2.2.1,(os,(us,()))))))
theorem cloneB_J1 (b b2:yab)(hl:b.2.2.2.2.1.length<536870912)(ho:∀ o∈b.2.2.2.2.1,ybB.f n o=some (o,())):∀ (m k:Nat),k≤b.2.2.2.2.1.length→b.2.2.2.2.1.length-k<m →
    yaX.J1 n m (b.2.2.2.2.1,((b.2.2.2.2.1.length:Nat):Int),(k:Int),b,b2,outB b (b.2.2.2.2.1.take k) [],())=yaX.J2 n (b,b2,outB b b.2.2.2.2.1 [],())
  | 0,k,_,h=>by omega
  | m + 1,k,hk,h=>by
    rw[yaX.e1]
    simp only[yaS]
    by_cases hlt:k<b.2.2.2.2.1.length
    · rw[decide_eq_true (show (k:Int)<((b.2.2.2.2.1.length:Nat):Int) by omega),yap,yaq ⟨by omega,by omega⟩,Int.toNat_natCast,ho _ (ybr hlt),bnd_some,yaq (by show ((b.2.2.2.2.1.take k).length+1)*40≤_;rw[List.length_take];omega),ya7 k (by omega)]
      have e:=take_add (Va.dflt yag) hlt
      change yaX.J1 n m (b.2.2.2.2.1,_,_,b,b2,outB b (b.2.2.2.2.1.take k++[b.2.2.2.2.1.getD k (Va.dflt yag)]) [],())=_
      rw[e]
      exact cloneB_J1 b b2 hl ho m (k+1) (by omega) (by omega)
    · rw[decide_eq_false (show ¬ (k:Int)<((b.2.2.2.2.1.length:Nat):Int) by omega),yam,List.take_of_length_le (by omega)]
theorem cloneB_J3 (b b2:yab)(hl:b.2.2.2.2.2.1.length<536870912)(hu:∀ u∈b.2.2.2.2.2.1,ybO.f n u=some (u,())):∀ (m k:Nat),k≤b.2.2.2.2.2.1.length→b.2.2.2.2.2.1.length-k<m →
    yaX.J3 n m (b.2.2.2.2.2.1,((b.2.2.2.2.2.1.length:Nat):Int),(k:Int),b2,outB b b.2.2.2.2.1 (b.2.2.2.2.2.1.take k),())=yaX.J4 n (b2,outB b b.2.2.2.2.1 b.2.2.2.2.2.1,())
  | 0,k,_,h=>by omega
  | m + 1,k,hk,h=>by
    rw[yaX.e3]
    simp only[yaS]
    by_cases hlt:k<b.2.2.2.2.2.1.length
    · rw[decide_eq_true (show (k:Int)<((b.2.2.2.2.2.1.length:Nat):Int) by omega),yap,yaq ⟨by omega,by omega⟩,Int.toNat_natCast,hu _ (ybr hlt),bnd_some,yaq (by show ((b.2.2.2.2.2.1.take k).length+1)*72≤_;rw[List.length_take];omega),ya7 k (by omega)]
      have e:=take_add (Va.dflt yal) hlt
      change yaX.J3 n m (b.2.2.2.2.2.1,_,_,b2,outB b b.2.2.2.2.1 (b.2.2.2.2.2.1.take k++[b.2.2.2.2.2.1.getD k (Va.dflt yal)]),())=_
      rw[e]
      exact cloneB_J3 b b2 hl hu m (k+1) (by omega) (by omega)
    · rw[decide_eq_false (show ¬ (k:Int)<((b.2.2.2.2.2.1.length:Nat):Int) by omega),yam,List.take_of_length_le (by omega)]
theorem clone_Bucket (hn:n≤536870912){b:yab}(h:BkS n b):yaX.f n b=some (b,()):=by
  have h1:=h.ol
  have h2:=h.ul
  have h3:=h.ru.len
  have h4:=h.gr.len
  have ho:∀ o∈b.2.2.2.2.1,ybB.f n o=some (o,()):=λo ho=>by
    have hq:=(h.ob o ho).list
    have hq1:=hq.len
    exact clone_Object (by omega) hq1 λv hv=>by have:=(hq.all v hv).tags.1;show (tags v).length≤_;omega
  have hu:∀ u∈b.2.2.2.2.2.1,ybO.f n u=some (u,()):=λu hu=>by
    have hq1:=(h.up u hu).tg.1
    have hq2:=(h.up u hu).ps
    exact clone_Upload (by omega) (by omega)
  rw[yaX.e0,clone_Rules (by omega) h3 (λr hr=>by have:=(h.ru.all r hr).tags.1;omega),bnd_some,clone_Grant (by omega),bnd_some,clip_Grant,bnd_some]
  have k1:=cloneB_J1 (n:=n) b ((⟨#[]⟩:ByteArray),((0,(0,())),([],([],([],([],())))))) (by omega) ho n 0 (by omega) (by omega)
  rw[List.take_zero]at k1
  refine k1.trans ?_
  rw[yaX.e2]
  have k2:=cloneB_J3 (n:=n) b ((⟨#[]⟩:ByteArray),((0,(0,())),([],([],([],([],())))))) (by omega) hu n 0 (by omega) (by omega)
  rw[List.take_zero]at k2
  refine Eq.trans ?_ (k2.trans ?_)
  · rfl
  · rw[yaX.e4]
    rfl
theorem cmp_is (a b:ByteArray):ya0.f n a b=some (cmp3 a b,()):=by
  rw[ya0.e0,nan_string,nan_string]
  simp only[yaS,bnd_some,yam]
  unfold cmp3
  cases ltS a b
  · cases eqS a b<;>rfl
  · rfl
theorem cmp3_neg (a b:ByteArray):decide (cmp3 a b<0)=ltS a b:=by
  unfold cmp3
  cases ltS a b
  · cases eqS a b<;>rfl
  · rfl
theorem cmp3_zero (a b:ByteArray):(cmp3 a b==0)=(!ltS a b&&eqS a b):=by
  unfold cmp3
  cases ltS a b
  · cases eqS a b<;>rfl
  · rfl
theorem by_Name (a b:yab):ybD.f n a b=some (cmp3 a.1 b.1,()):=by
  rw[ybD.e0,cmp_is,bnd_some]
theorem mid_is {i j:Nat}(h:i+j<1073741824):IntKind.i64.wrap (shrI .u64 (IntKind.u64.wrap (IntKind.i64.wrap ((i:Int)+(j:Int)))) 1)=(((i+j)/2:Nat):Int):=by
  rw[ybn (x:=(i:Int)+(j:Int)) (by omega),wrap_u64 (x:=(i:Int)+(j:Int)) (by omega),show (1:Int)=((1:Nat):Int) from rfl,shr_eq (by decide),ybn (by omega)]
  omega
theorem find_J1 (l:List yab) (hl:l.length<536870912) (t:yab):∀ (m i j:Nat),i≤j→j≤l.length→j-i<m →
    yaF.J1 n m (l,((l.length:Nat):Int),(i:Int),(j:Int),t,())=yaF.J2 n (l,((l.length:Nat):Int),(bsF (λk=>ltS (l.getD k (Va.dflt yaa)).1 t.1) m i j:Int),t,())
  | 0,i,j,_,_,h=>by omega
  | m + 1,i,j,hij,hj,h=>by
    rw[yaF.e1]
    simp only[yaS]
    unfold bsF
    by_cases hlt:i<j
    · rw[decide_eq_true (show (i:Int)<(j:Int) by omega),yap,gNo_neg (by decide),mid_is (by omega),yaq ⟨by omega,by omega⟩,Int.toNat_natCast,by_Name,bnd_some]
      dsimp only
      rw[cmp3_neg,if_pos hlt]
      cases ltS (l.getD ((i+j)/2) (Va.dflt yaa)).1 t.1 with
      | true=>
        rw[yap,if_pos rfl,ya7 ((i+j)/2) (by omega)]
        exact find_J1 l hl t m _ j (by omega) hj (by omega)
      | false=>
        rw[yam,if_neg (by decide)]
        exact find_J1 l hl t m i _ (by omega) (by omega) (by omega)
    · rw[decide_eq_false (show ¬ (i:Int)<(j:Int) by omega),yam,if_neg hlt]
def placeG {α:Type}(key:α→ByteArray)(d:α)(l:List α)(nm:ByteArray):Nat:=bsF (λk=>ltS (key (l.getD k d)) nm) (l.length+1) 0 l.length
def thereG {α:Type}(key:α→ByteArray)(d:α)(l:List α)(nm:ByteArray):Bool:=decide (placeG key d l nm<l.length)&&(!ltS (key (l.getD (placeG key d l nm) d)) nm&&eqS (key (l.getD (placeG key d l nm) d)) nm)
abbrev nameB (b:yab):ByteArray:=b.1
abbrev placeB (l:List yab)(nm:ByteArray):Nat:=placeG nameB (Va.dflt yaa) l nm
abbrev thereB (l:List yab)(nm:ByteArray):Bool:=thereG nameB (Va.dflt yaa) l nm
theorem bsF_more (lt:Nat→Bool):∀ (m m' i j:Nat),i≤j→j-i<m→j-i<m'→bsF lt m i j=bsF lt m' i j
  | 0,_,i,j,_,h,_=>by omega
  | _+1,0,i,j,_,_,h=>by omega
  | m + 1,m'+1,i,j,hij,h,h'=>by
    unfold bsF
    by_cases hlt:i<j
    · rw[if_pos hlt,if_pos hlt]
      split
      · exact bsF_more lt m m' _ j (by omega) (by omega) (by omega)
      · exact bsF_more lt m m' i _ (by omega) (by omega) (by omega)
    · rw[if_neg hlt,if_neg hlt]
theorem find_Bucket {l:List yab}(hl:l.length<536870912)(hn:l.length<n)(t:yab):ycq.f n l t=some ((placeB l t.1:Int),thereB l t.1,()):=by
  have hle:=(bsF_le (λk=>ltS (l.getD k (Va.dflt yaa)).1 t.1) (l.length+1) 0 l.length (Nat.zero_le _)).2
  have h1:=find_J1 (n:=n) l hl t n 0 l.length (Nat.zero_le _) (Nat.le_refl _) (by omega)
  rw[bsF_more _ n (l.length+1) 0 l.length (Nat.zero_le _) (by omega) (by omega)]at h1
  rw[ycq.e0,yaF.e0]
  change bnd (yaF.J1 n n (l,((l.length:Nat):Int),((0:Nat):Int),((l.length:Nat):Int),t,())) _=_
  rw[h1,yaF.e2]
  simp only[yaS]
  change bnd (bIf (decide ((placeB l t.1:Int)<((l.length:Nat):Int))) (gIf (0≤(placeB l t.1:Int)∧(placeB l t.1:Int)<((l.length:Nat):Int)) (bnd (ybD.f n (l.getD ((placeB l t.1:Int)).toNat (Va.dflt yaa)) t) λu1=>some ((placeB l t.1:Int),(u1.1==0),()))) (some ((placeB l t.1:Int),false,()))) _=_
  unfold thereB thereG
  by_cases hk:placeB l t.1<l.length
  · rw[decide_eq_true (show (placeB l t.1:Int)<((l.length:Nat):Int) by omega),yap,yaq ⟨by omega,by omega⟩,Int.toNat_natCast,by_Name,bnd_some,bnd_some,decide_eq_true hk,Bool.true_and]
    dsimp only
    rw[cmp3_zero]
  · rw[decide_eq_false (show ¬ (placeB l t.1:Int)<((l.length:Nat):Int) by omega),yam,bnd_some,decide_eq_false hk,Bool.false_and]
def orNo {α:Type}(d:α):Option α→α×Int×Unit
  | some x=>(x,0,())
  | none=>(d,7,())
def orBad {α:Type}(d:α):Option α→α×Bool×Unit
  | some x=>(x,true,())
  | none=>(d,false,())
abbrev nilB:yab:=((⟨#[]⟩:ByteArray),((0,(0,())),([],([],([],([],()))))))
theorem meta_Bucket (h3:300≤n) (hn:n≤536870912) {s:yaf} (hs:StS n s) (nm:ByteArray) :
    ybA.f n s nm=some (if (ydE s&&thereB s.2.2.2.1 nm)=true then (s.2.2.2.1.getD (placeB s.2.2.2.1 nm) (Va.dflt yaa),0,()) else (nilB,7,())):=by
  have hl:=hs.len
  rw[ybA.e0,find_Bucket (by omega) (by omega),bnd_some,meta_Sound h3 hn hs,bnd_some]
  dsimp only
  cases hst:ydE s with
  | false=>
    rw[Bool.not_false,yap,ybA.e1,yap,Bool.false_and,if_neg (by decide)]
  | true=>
    rw[Bool.not_true,yam,ybA.e1,Bool.true_and]
    cases ht:thereB s.2.2.2.1 nm with
    | false=>rw[Bool.not_false,yap,if_neg (by decide)]
    | true=>
      have hk:placeB s.2.2.2.1 nm<s.2.2.2.1.length:=by
        unfold thereB thereG at ht
        rw[Bool.and_eq_true]at ht
        exact of_decide_eq_true ht.1
      rw[Bool.not_true,yam,if_pos rfl,ybA.e2,yaq ⟨by omega,by omega⟩,Int.toNat_natCast,clone_Bucket hn (hs.bk _ (ybr hk)),bnd_some]
theorem getD_at {α:Type}{l:List α}{k:Nat}(d:α)(h:k<l.length):l.getD k d=l[k]:=by rw[List.getD_eq_getElem?_getD,List.getElem?_eq_getElem h];rfl
theorem key_inj {α:Type}{key:α→ByteArray}{l:List α}(hp:l.Pairwise (λa b=>ltS (key a) (key b)=true)){i j:Nat}(hi:i<l.length)(hj:j<l.length)(e:key l[i]=key l[j]):i=j:=by
  rcases Nat.lt_trichotomy i j with h | h | h
  · have:=List.pairwise_iff_getElem.1 hp i j hi hj h
    rw[e,ltS_irr]at this;exact nomatch this
  · exact h
  · have:=List.pairwise_iff_getElem.1 hp j i hj hi h
    rw[e,ltS_irr]at this;exact nomatch this
theorem there_iff {α:Type}{key:α→ByteArray}(d:α){l:List α}(hp:l.Pairwise (λa b=>ltS (key a) (key b)=true))(nm:ByteArray) :
    (thereG key d l nm=true→∃ h:placeG key d l nm<l.length,key l[placeG key d l nm]=nm)∧(thereG key d l nm=false→∀ k (h:k<l.length),key l[k]≠nm):=by
  have hmono:∀ a b,a≤b→b<l.length→ltS (key (l.getD b d)) nm=true→ltS (key (l.getD a d)) nm=true:=λa b hab hb h=>by
    rcases Nat.eq_or_lt_of_le hab with e | hlt
    · rw[e];exact h
    · have:=List.pairwise_iff_getElem.1 hp a b (by omega) hb hlt
      rw[getD_at d (by omega)]
      rw[getD_at d hb]at h
      exact ltS_trans this h
  obtain⟨q1,q2⟩:=bsF_is (λk=>ltS (key (l.getD k d)) nm) l.length hmono (l.length+1) 0 l.length (Nat.zero_le _) (Nat.le_refl _) (by omega) (λk hk=>by omega) (λk hk hkl=>by omega)
  constructor
  · intro h
    unfold thereG at h
    rw[Bool.and_eq_true,Bool.and_eq_true]at h
    have hk:=of_decide_eq_true h.1
    refine⟨hk,?_⟩
    rw[← getD_at d hk]
    exact eqOf h.2.2
  · intro h k hk e
    have hk1:¬ k<placeG key d l nm:=λhlt=>by
      have h5:ltS (key (l.getD k d)) nm=true:=q1 k hlt
      rw[getD_at d hk,e,ltS_irr]at h5
      exact nomatch h5
    have hk2:¬ placeG key d l nm<k:=λhlt=>by
      have h5:ltS (key (l.getD (placeG key d l nm) d)) nm=false:=q2 (placeG key d l nm) (Nat.le_refl _) (by omega)
      have:=List.pairwise_iff_getElem.1 hp (placeG key d l nm) k (by omega) hk hlt
      rw[getD_at d (by omega)]at h5
      rw[e,h5]at this
      exact nomatch this
    have hke:placeG key d l nm=k:=by omega
    unfold thereG at h
    rw[hke,decide_eq_true hk,getD_at d hk,e,ltS_irr,ycV]at h
    exact nomatch h
def lookK {α:Type}(key:α→ByteArray)(l:List α)(nm:ByteArray):Option α:=l.find? λx=>eqS (key x) nm
theorem look_key {α:Type}{key:α→ByteArray}{l:List α}{nm:ByteArray}{x:α}(h:lookK key l nm=some x):x∈l∧eqS (key x) nm=true∧key x=nm:=by
  have h2:eqS (key x) nm=true:=List.find?_some (p:=λx=>eqS (key x) nm) h
  exact⟨List.mem_of_find?_eq_some h,h2,eqOf h2⟩
theorem look_there {α:Type}{key:α→ByteArray}(d:α){l:List α}(hp:l.Pairwise (λa b=>ltS (key a) (key b)=true))(nm:ByteArray) :
    lookK key l nm=if thereG key d l nm=true then some (l.getD (placeG key d l nm) d) else none:=by
  obtain⟨h1,h2⟩:=there_iff d hp nm
  unfold lookK
  cases ht:thereG key d l nm with
  | true=>
    obtain⟨hk,e⟩:=h1 ht
    rw[if_pos rfl,getD_at d hk,List.find?_eq_some_iff_getElem]
    refine⟨by rw[e,ycV],placeG key d l nm,hk,rfl,λj hj => ?_⟩
    cases hq:eqS (key l[j]) nm with
    | false=>rfl
    | true=>
      have:=key_inj hp (i:=j) (j:=placeG key d l nm) (by omega) hk ((eqOf hq).trans e.symm)
      omega
  | false=>
    rw[if_neg (by decide),List.find?_eq_none]
    intro x hx hq
    obtain⟨k,hk,e⟩:=List.getElem_of_mem hx
    exact h2 ht k hk (by rw[e];exact eqOf hq)
theorem bks_up {l:List yab}(hu:upB ydB l=true):l.Pairwise (λa b=>ltS (nameB a) (nameB b)=true):=(up_pair (lt:=ydB) (λa b c h1 h2=>ltS_trans h1 h2) l none hu).2
theorem objs_up {l:List yad}(hu:upB ydx l=true):l.Pairwise (λa b=>ltS a.1 b.1=true):=(up_pair (lt:=ydx) (λa b c h1 h2=>ltS_trans h1 h2) l none hu).2
end
end Go.Proofs.YtemhlkdingkjnaaGreatDoor
namespace Go.Proofs.YtemhlkdingkjnaaGreatDoor
open Go Go.Va Go.Proofs
noncomputable section
namespace ybt
abbrev ia:List Ai:=[.dat (.slice yaC),.dat (.slice yaC)]
abbrev io:List (Nat×Oi):=[(4,.dat .bool)]
abbrev R:Type:=DOut ia io
def X (n:Nat):Ctx:=⟨⟨tab,[],0,[]⟩,26,bnOf 0 ia⟩
abbrev g1:List Si:=[.dat 0 (.slice yaC),.dat 1 (.slice yaC),.dat 5 (.int .i64)]
abbrev g2:List Si:=[]
def T:CT:=(.s .o (.s .o (.s (.s .o (.b (.l g1 .o))) (.r g2 .o))))
def J1 (n:Nat)(m:Nat):(List (yaH))×(List (yaH))×Int×Unit→Option R:=jL (X n) n T (yau Tryz.f50) (endK ia io) g1 [1,1,0,1,0] [] m
def J2 (n:Nat):Unit→Option R:=jR (X n) n T (yau Tryz.f50) (endK ia io) g2 [1,1,1] []
def f (n:Nat)(a:List (yaH))(b:List (yaH)):Option R:=fRun (X n) n T Tryz.f50 ia io (a,b,())
theorem e0 (n:Nat)(a:List (yaH))(b:List (yaH)):f n a b=bIf ((hide (((a.length:Nat):Int) != ((b.length:Nat):Int)))) (some (false,())) (J1 n n (a,b,0,())):=(yac _).trans (by kernel_rfl)
theorem e1 (n m:Nat)(a:List (yaH))(b:List (yaH))(i:Int):J1 n (m+1) (a,b,i,())=bIf ((hide (decide (i<((a.length:Nat):Int))))) (gIf (0≤i∧i<((a.length:Nat):Int)) (gIf (0≤i∧i<((b.length:Nat):Int)) (bIf ((hide (!(eqD yaC (List.getD a i.toNat (Va.dflt yaC)) (List.getD b i.toNat (Va.dflt yaC)))))) (some (false,())) (J1 n m (a,b,(IntKind.i64.wrap (i+(1:Int))),()))))) (J2 n (())):=(yac _).trans (by kernel_rfl)
theorem e2 (n:Nat):J2 n (())=some (true,()):=(yac _).trans (by kernel_rfl)
theorem ok (n:Nat):FnOk Tryz.prog 50 ia io (fRun (X n) n T Tryz.f50 ia io):=yaA mixed tabIs (yas) Tryz.func50 (by kernel_rfl) rfl
def en (n:Nat):Entry:=yaw 50 ia io (fRun (X n) n T Tryz.f50 ia io)
end ybt
namespace ybs
abbrev ia:List Ai:=[.dat (.slice yav),.dat (.slice yav)]
abbrev io:List (Nat×Oi):=[(4,.dat .bool)]
abbrev R:Type:=DOut ia io
def X (n:Nat):Ctx:=⟨⟨tab,[ybv.en n],0,[]⟩,81,bnOf 0 ia⟩
abbrev g1:List Si:=[.dat 0 (.slice yav),.dat 1 (.slice yav),.dat 5 (.int .i64)]
abbrev g2:List Si:=[.dat 0 (.slice yav),.dat 1 (.slice yav),.dat 5 (.int .i64)]
abbrev g3:List Si:=[]
def T:CT:=(.s .o (.s .o (.s (.s .o (.b (.l g1 (.s .o (.s .o (.r g2 .o)))))) (.r g3 .o))))
def J1 (n:Nat)(m:Nat):(List (yaE))×(List (yaE))×Int×Unit→Option R:=jL (X n) n T (yau Tryz.f49) (endK ia io) g1 [1,1,0,1,0] [] m
def J2 (n m1:Nat):(List (yaE))×(List (yaE))×Int×Unit→Option R:=jR (X n) n T (yau Tryz.f49) (endK ia io) g2 [1,1,0,1,0,0,1,1] [m1]
def J3 (n:Nat):Unit→Option R:=jR (X n) n T (yau Tryz.f49) (endK ia io) g3 [1,1,1] []
def f (n:Nat)(a:List (yaE))(b:List (yaE)):Option R:=fRun (X n) n T Tryz.f49 ia io (a,b,())
theorem e0 (n:Nat)(a:List (yaE))(b:List (yaE)):f n a b=bIf ((hide (((a.length:Nat):Int) != ((b.length:Nat):Int)))) (some (false,())) (J1 n n (a,b,0,())):=(yac _).trans (by kernel_rfl)
theorem e1 (n m:Nat)(a:List (yaE))(b:List (yaE))(i:Int):J1 n (m+1) (a,b,i,())=bIf ((hide (decide (i<((a.length:Nat):Int))))) (gIf (0≤i∧i<((a.length:Nat):Int)) (gIf (0≤i∧i<((b.length:Nat):Int)) (bIf ((hide (!eqS ((List.getD a i.toNat (Va.dflt yav)).1) ((List.getD b i.toNat (Va.dflt yav)).1)))) (some (false,())) (gIf (0≤i∧i<((a.length:Nat):Int)) (gIf (0≤i∧i<((b.length:Nat):Int)) (bnd (ybv.f n (((List.getD a i.toNat (Va.dflt yav)).2).1) (((List.getD b i.toNat (Va.dflt yav)).2).1)) λu1=>bIf ((!u1.1)) (some (false,())) (gIf (0≤i∧i<((a.length:Nat):Int)) (gIf (0≤i∧i<((b.length:Nat):Int)) (bIf ((hide (((((List.getD a i.toNat (Va.dflt yav)).2).2).1) != ((((List.getD b i.toNat (Va.dflt yav)).2).2).1)))) (some (false,())) (gIf (0≤i∧i<((a.length:Nat):Int)) (gIf (0≤i∧i<((b.length:Nat):Int)) (bIf ((hide ((((((List.getD a i.toNat (Va.dflt yav)).2).2).2).1) != (((((List.getD b i.toNat (Va.dflt yav)).2).2).2).1)))) (some (false,())) (gIf (0≤i∧i<((a.length:Nat):Int)) (gIf (0≤i∧i<((b.length:Nat):Int)) (bIf ((hide (!(((((((List.getD a i.toNat (Va.dflt yav)).2).2).2).2).1)==((((((List.getD b i.toNat (Va.dflt yav)).2).2).2).2).1))))) (some (false,())) (J2 n m (a,b,i,()))))))))))))))))) (J3 n (())):=(yac _).trans (by kernel_rfl)
theorem e2 (n m1:Nat)(a:List (yaE))(b:List (yaE))(i:Int):J2 n m1 (a,b,i,())=J1 n m1 (a,b,(IntKind.i64.wrap (i+(1:Int))),()):=(yac _).trans (by kernel_rfl)
theorem e3 (n:Nat):J3 n (())=some (true,()):=(yac _).trans (by kernel_rfl)
theorem ok (n:Nat):FnOk Tryz.prog 49 ia io (fRun (X n) n T Tryz.f49 ia io):=yaA mixed tabIs (yaj (yai (ybv.ok n)) (yas)) Tryz.func49 (by kernel_rfl) rfl
def en (n:Nat):Entry:=yaw 49 ia io (fRun (X n) n T Tryz.f49 ia io)
end ybs
end
end Go.Proofs.YtemhlkdingkjnaaGreatDoor
namespace Go.Proofs.YtemhlkdingkjnaaGreatDoor
open Go Go.Va Go.Proofs
theorem zip_loop {α:Type}{a b:List α}(d:α)(q:α→α→Bool)(J:Nat→Int→Option (Bool×Unit))(hab:a.length=b.length)
    (hs:∀ m (k:Nat),k<a.length→J (m+1) (k:Int)=bIf (q (a.getD k d) (b.getD k d)) (J m ((k+1:Nat):Int)) (some (false,())))
    (he:∀ m,J (m+1) ((a.length:Nat):Int)=some (true,())) :
    ∀ (m k:Nat),k≤a.length→a.length-k<m→J m (k:Int)=some (allB q (a.drop k) (b.drop k),())
  | 0,k,_,h=>by omega
  | m + 1,k,hk,h=>by
    by_cases hlt:k<a.length
    · rw[hs m k hlt,zip_loop d q J hab hs he m (k+1) (by omega) (by omega),allB_step d hlt (by omega)]
      cases q (a.getD k d) (b.getD k d)<;>rfl
    · have:k=a.length:=by omega
      subst this
      rw[he,allB_end (by omega) (by omega)]
theorem ne_len {α β:Type}(a:List α)(b:List β):(((a.length:Nat):Int) != ((b.length:Nat):Int))=!decide (a.length=b.length):=by
  rw[bne,show ((((a.length:Nat):Int)==((b.length:Nat):Int)))=decide (((a.length:Nat):Int)=((b.length:Nat):Int)) from rfl]
  congr 1;exact decide_eq_decide.2 (by omega)
def sameR (a b:yaE):Bool:=eqS a.1 b.1&&((a.2.2.1==b.2.2.1)&&((a.2.2.2.1==b.2.2.2.1)&&((a.2.2.2.2.1==b.2.2.2.2.1)&&allB sameT a.2.1 b.2.1)))
theorem ref14_SameRules {n:Nat} (hn:n≤536870912) {a b:List yaE} (ha:RusB n a):ybs.f n a b=some (allB sameR a b,()):=by
  have hlen:=ha.len
  rw[ybs.e0,yaN,ne_len]
  by_cases h:a.length=b.length
  · have:=zip_loop (Va.dflt yav) sameR (λm k=>ybs.J1 n m (a,b,k,())) h
      (λm k hk=>by
        have hr:=ha.all _ (ybr (d:=Va.dflt yav) hk)
        have g1:(0≤(k:Int)∧(k:Int)<((a.length:Nat):Int)):=⟨by omega,by omega⟩
        have g2:(0≤(k:Int)∧(k:Int)<((b.length:Nat):Int)):=⟨by omega,by omega⟩
        try dsimp only
        rw[ybs.e1,yaN,decide_eq_true (by omega),yap]
        simp only[yaq g1,yaq g2,Int.toNat_natCast,ybs.e2,ya7 k (by omega),yaN]
        generalize a.getD k (Va.dflt yav)=x at hr
        generalize b.getD k (Va.dflt yav)=y
        rw[same32 hn hr.tags.1,bnd_some,bne,bne]
        unfold sameR
        cases eqS x.1 y.1<;>cases (x.2.2.1==y.2.2.1)<;>cases (x.2.2.2.1==y.2.2.2.1)<;>cases (x.2.2.2.2.1==y.2.2.2.2.1)<;>cases allB sameT x.2.1 y.2.1<;>rfl)
      (λm=>by
        try dsimp only
        rw[ybs.e1,yaN,decide_eq_false (by omega),yam,ybs.e3]) n 0 (by omega) (by omega)
    try dsimp only at this
    rw[show ((0:Nat):Int)=0 from rfl]at this
    rw[decide_eq_true h,Bool.not_true,yam,this];rfl
  · rw[decide_eq_false h,Bool.not_false,yap,allB_len a b h]
def sameG (a b:yaH):Bool:=eqD yaC a b
theorem ref14_SameGrants {n:Nat} (hn:n≤536870912) {a b:List yaH} (ha:GrsB n a):ybt.f n a b=some (allB sameG a b,()):=by
  have hlen:=ha.len
  rw[ybt.e0,yaN,ne_len]
  by_cases h:a.length=b.length
  · have:=zip_loop (Va.dflt yaC) sameG (λm k=>ybt.J1 n m (a,b,k,())) h
      (λm k hk=>by
        try dsimp only
        rw[ybt.e1,yaN,decide_eq_true (by omega),yap,yaq ⟨by omega,by omega⟩,yaq ⟨by omega,by omega⟩,Int.toNat_natCast,ya7 k (by omega),yaN]
        unfold sameG
        cases eqD yaC _ _<;>rfl)
      (λm=>by
        try dsimp only
        rw[ybt.e1,yaN,decide_eq_false (by omega),yam,ybt.e2]) n 0 (by omega) (by omega)
    try dsimp only at this
    rw[show ((0:Nat):Int)=0 from rfl]at this
    rw[decide_eq_true h,Bool.not_true,yam,this];rfl
  · rw[decide_eq_false h,Bool.not_false,yap,allB_len a b h]
end Go.Proofs.YtemhlkdingkjnaaGreatDoor
namespace Go.Proofs.YtemhlkdingkjnaaGreatDoor
open Go Go.Va Go.Proofs
noncomputable section
namespace ybk
abbrev ia:List Ai:=[.dat yag,.dat yag]
abbrev io:List (Nat×Oi):=[(4,.dat .bool)]
abbrev R:Type:=DOut ia io
def X (n:Nat):Ctx:=⟨⟨tab,[ya1.en n],0,[]⟩,39,bnOf 0 ia⟩
abbrev g1:List Si:=[.ref 2 2 yag,.ref 3 3 yag,.box 2 (.d yag),.box 3 (.d yag)]
abbrev g2:List Si:=[.ref 2 2 yag,.ref 3 3 yag,.dat 5 (.int .i64),.box 2 (.d yag),.box 3 (.d yag)]
abbrev g3:List Si:=[]
def T:CT:=(.s .o (.s .o (.r g1 (.s (.s .o (.b (.l g2 .o))) (.r g3 .o)))))
def J1 (n:Nat):yad×yad×Unit→Option R:=jR (X n) n T (yau Tryz.f18) (endK ia io) g1 [1,1] []
def J2 (n:Nat)(m:Nat):Int×yad×yad×Unit→Option R:=jL (X n) n T (yau Tryz.f18) (endK ia io) g2 [1,1,0,1,0] [] m
def J3 (n:Nat):Unit→Option R:=jR (X n) n T (yau Tryz.f18) (endK ia io) g3 [1,1,1] []
def f (n:Nat)(a:yad)(b:yad):Option R:=fRun (X n) n T Tryz.f18 ia io (a,b,())
theorem e0 (n:Nat)(a:yad)(b:yad):f n a b=bIf ((hide (!eqS a.1 b.1))) (some (false,())) (bIf ((hide (((a.2.1.length:Nat):Int) != ((b.2.1.length:Nat):Int)))) (some (false,())) (J1 n (a,b,()))):=(yac _).trans (by kernel_rfl)
theorem e1 (n:Nat)(a:yad)(b:yad):J1 n (a,b,())=J2 n n (0,a,b,()):=(yac _).trans (by kernel_rfl)
theorem e2 (n m:Nat)(i:Int)(a:yad)(b:yad):J2 n (m+1) (i,a,b,())=bIf ((hide (decide (i<((a.2.1.length:Nat):Int))))) (gIf (0≤i∧i<((a.2.1.length:Nat):Int)) (gIf (0≤i∧i<((b.2.1.length:Nat):Int)) (bnd (ya1.f n (List.getD a.2.1 i.toNat (Va.dflt yae)) (List.getD b.2.1 i.toNat (Va.dflt yae))) λu1=>bIf ((!u1.1)) (some (false,())) (J2 n m ((IntKind.i64.wrap (i+(1:Int))),a,b,()))))) (J3 n (())):=(yac _).trans (by kernel_rfl)
theorem e3 (n:Nat):J3 n (())=some (true,()):=(yac _).trans (by kernel_rfl)
theorem ok (n:Nat):FnOk Tryz.prog 18 ia io (fRun (X n) n T Tryz.f18 ia io):=yaA mixed tabIs (yaj (yai (ya1.ok n)) (yas)) Tryz.func18 (by kernel_rfl) rfl
def en (n:Nat):Entry:=yaw 18 ia io (fRun (X n) n T Tryz.f18 ia io)
end ybk
namespace ybe
abbrev ia:List Ai:=[.dat yal,.dat yal]
abbrev io:List (Nat×Oi):=[(4,.dat .bool)]
abbrev R:Type:=DOut ia io
def X (n:Nat):Ctx:=⟨⟨tab,[ybv.en n],0,[]⟩,53,bnOf 0 ia⟩
abbrev g1:List Si:=[.ref 2 2 yal,.ref 3 3 yal,.box 2 (.d yal),.box 3 (.d yal)]
abbrev g2:List Si:=[.ref 2 2 yal,.ref 3 3 yal,.dat 5 (.int .i64),.box 2 (.d yal),.box 3 (.d yal)]
abbrev g3:List Si:=[]
def T:CT:=(.s .o (.s .o (.r g1 (.s (.s .o (.b (.l g2 .o))) (.r g3 .o)))))
def J1 (n:Nat):yan×yan×Unit→Option R:=jR (X n) n T (yau Tryz.f51) (endK ia io) g1 [1,1] []
def J2 (n:Nat)(m:Nat):Int×yan×yan×Unit→Option R:=jL (X n) n T (yau Tryz.f51) (endK ia io) g2 [1,1,0,1,0] [] m
def J3 (n:Nat):Unit→Option R:=jR (X n) n T (yau Tryz.f51) (endK ia io) g3 [1,1,1] []
def f (n:Nat)(a:yan)(b:yan):Option R:=fRun (X n) n T Tryz.f51 ia io (a,b,())
theorem e0 (n:Nat)(a:yan)(b:yan):f n a b=bIf ((hide (a.1 != b.1))) (some (false,())) (bIf ((hide (!eqS a.2.1 b.2.1))) (some (false,())) (bnd (ybv.f n a.2.2.1 b.2.2.1) λu1=>bIf ((!u1.1)) (some (false,())) (bIf ((hide (((a.2.2.2.1.length:Nat):Int) != ((b.2.2.2.1.length:Nat):Int)))) (some (false,())) (J1 n (a,b,()))))):=(yac _).trans (by kernel_rfl)
theorem e1 (n:Nat)(a:yan)(b:yan):J1 n (a,b,())=J2 n n (0,a,b,()):=(yac _).trans (by kernel_rfl)
theorem e2 (n m:Nat)(i:Int)(a:yan)(b:yan):J2 n (m+1) (i,a,b,())=bIf ((hide (decide (i<((a.2.2.2.1.length:Nat):Int))))) (gIf (0≤i∧i<((a.2.2.2.1.length:Nat):Int)) (gIf (0≤i∧i<((b.2.2.2.1.length:Nat):Int)) (bIf ((hide (!(eqD yaK (List.getD a.2.2.2.1 i.toNat (Va.dflt yaK)) (List.getD b.2.2.2.1 i.toNat (Va.dflt yaK)))))) (some (false,())) (J2 n m ((IntKind.i64.wrap (i+(1:Int))),a,b,()))))) (J3 n (())):=(yac _).trans (by kernel_rfl)
theorem e3 (n:Nat):J3 n (())=some (true,()):=(yac _).trans (by kernel_rfl)
theorem ok (n:Nat):FnOk Tryz.prog 51 ia io (fRun (X n) n T Tryz.f51 ia io):=yaA mixed tabIs (yaj (yai (ybv.ok n)) (yas)) Tryz.func51 (by kernel_rfl) rfl
def en (n:Nat):Entry:=yaw 51 ia io (fRun (X n) n T Tryz.f51 ia io)
end ybe
namespace yaM
abbrev ia:List Ai:=[.dat yaa,.dat yaa]
abbrev io:List (Nat×Oi):=[(4,.dat .bool)]
abbrev R:Type:=DOut ia io
def X (n:Nat):Ctx:=⟨⟨tab,[ybk.en n,ybs.en n,ybt.en n,ybe.en n],0,[]⟩,91,bnOf 0 ia⟩
abbrev g1:List Si:=[.ref 2 2 yaa,.ref 3 3 yaa,.box 2 (.d yaa),.box 3 (.d yaa)]
abbrev g2:List Si:=[.ref 2 2 yaa,.ref 3 3 yaa,.dat 5 (.int .i64),.box 2 (.d yaa),.box 3 (.d yaa)]
abbrev g3:List Si:=[.ref 2 2 yaa,.ref 3 3 yaa,.box 2 (.d yaa),.box 3 (.d yaa)]
abbrev g4:List Si:=[.ref 2 2 yaa,.ref 3 3 yaa,.dat 6 (.int .i64),.box 2 (.d yaa),.box 3 (.d yaa)]
abbrev g5:List Si:=[]
def T:CT:=(.s .o (.s .o (.r g1 (.s (.s .o (.b (.l g2 .o))) (.r g3 (.s (.s .o (.b (.l g4 .o))) (.r g5 .o)))))))
def J1 (n:Nat):yab×yab×Unit→Option R:=jR (X n) n T (yau Tryz.f16) (endK ia io) g1 [1,1] []
def J2 (n:Nat)(m:Nat):Int×yab×yab×Unit→Option R:=jL (X n) n T (yau Tryz.f16) (endK ia io) g2 [1,1,0,1,0] [] m
def J3 (n:Nat):yab×yab×Unit→Option R:=jR (X n) n T (yau Tryz.f16) (endK ia io) g3 [1,1,1] []
def J4 (n:Nat)(m:Nat):Int×yab×yab×Unit→Option R:=jL (X n) n T (yau Tryz.f16) (endK ia io) g4 [1,1,1,0,1,0] [] m
def J5 (n:Nat):Unit→Option R:=jR (X n) n T (yau Tryz.f16) (endK ia io) g5 [1,1,1,1] []
def f (n:Nat)(a:yab)(b:yab):Option R:=fRun (X n) n T Tryz.f16 ia io (a,b,())
theorem e0 (n:Nat)(a:yab)(b:yab):f n a b=bIf ((hide (!eqS a.1 b.1))) (some (false,())) (bIf ((hide (!(eqD ya4 a.2.1 b.2.1)))) (some (false,())) (bnd (ybs.f n a.2.2.1 b.2.2.1) λu1=>bIf ((!u1.1)) (some (false,())) (bnd (ybt.f n a.2.2.2.1 b.2.2.2.1) λu2=>bIf ((!u2.1)) (some (false,())) (bIf ((hide (((a.2.2.2.2.1.length:Nat):Int) != ((b.2.2.2.2.1.length:Nat):Int)))) (some (false,())) (bIf ((hide (((a.2.2.2.2.2.1.length:Nat):Int) != ((b.2.2.2.2.2.1.length:Nat):Int)))) (some (false,())) (J1 n (a,b,()))))))):=(yac _).trans (by kernel_rfl)
theorem e1 (n:Nat)(a:yab)(b:yab):J1 n (a,b,())=J2 n n (0,a,b,()):=(yac _).trans (by kernel_rfl)
theorem e2 (n m:Nat)(i:Int)(a:yab)(b:yab):J2 n (m+1) (i,a,b,())=bIf ((hide (decide (i<((a.2.2.2.2.1.length:Nat):Int))))) (gIf (0≤i∧i<((a.2.2.2.2.1.length:Nat):Int)) (gIf (0≤i∧i<((b.2.2.2.2.1.length:Nat):Int)) (bnd (ybk.f n (List.getD a.2.2.2.2.1 i.toNat (Va.dflt yag)) (List.getD b.2.2.2.2.1 i.toNat (Va.dflt yag))) λu1=>bIf ((!u1.1)) (some (false,())) (J2 n m ((IntKind.i64.wrap (i+(1:Int))),a,b,()))))) (J3 n (a,b,())):=(yac _).trans (by kernel_rfl)
theorem e3 (n:Nat)(a:yab)(b:yab):J3 n (a,b,())=J4 n n (0,a,b,()):=(yac _).trans (by kernel_rfl)
theorem e4 (n m:Nat)(i:Int)(a:yab)(b:yab):J4 n (m+1) (i,a,b,())=bIf ((hide (decide (i<((a.2.2.2.2.2.1.length:Nat):Int))))) (gIf (0≤i∧i<((a.2.2.2.2.2.1.length:Nat):Int)) (gIf (0≤i∧i<((b.2.2.2.2.2.1.length:Nat):Int)) (bnd (ybe.f n (List.getD a.2.2.2.2.2.1 i.toNat (Va.dflt yal)) (List.getD b.2.2.2.2.2.1 i.toNat (Va.dflt yal))) λu1=>bIf ((!u1.1)) (some (false,())) (J4 n m ((IntKind.i64.wrap (i+(1:Int))),a,b,()))))) (J5 n (())):=(yac _).trans (by kernel_rfl)
theorem e5 (n:Nat):J5 n (())=some (true,()):=(yac _).trans (by kernel_rfl)
theorem ok (n:Nat):FnOk Tryz.prog 16 ia io (fRun (X n) n T Tryz.f16 ia io):=yaA mixed tabIs (yaj (yai (ybk.ok n)) (yaj (yai (ybs.ok n)) (yaj (yai (ybt.ok n)) (yaj (yai (ybe.ok n)) (yas))))) Tryz.func16 (by kernel_rfl) rfl
def en (n:Nat):Entry:=yaw 16 ia io (fRun (X n) n T Tryz.f16 ia io)
end yaM
end
end Go.Proofs.YtemhlkdingkjnaaGreatDoor
namespace Go.Proofs.YtemhlkdingkjnaaGreatDoor
open Go Go.Va Go.Proofs
structure ObB (n:Nat)(o:yad):Prop where
  len:o.2.1.length<n
  vs:∀ v∈o.2.1,(tags v).length<n
structure UpB (n:Nat)(u:yan):Prop where
  tg:u.2.2.1.length<n
  ps:u.2.2.2.1.length<n
structure BkB (n:Nat)(b:yab):Prop where
  ru:RusB n b.2.2.1
  gr:GrsB n b.2.2.2.1
  ol:b.2.2.2.2.1.length<n
  ob:∀ o∈b.2.2.2.2.1,ObB n o
  ul:b.2.2.2.2.2.1.length<n
  up:∀ u∈b.2.2.2.2.2.1,UpB n u
structure StB (n:Nat)(s:yaf):Prop where
  len:s.2.2.2.1.length<n
  bk:∀ b∈s.2.2.2.1,BkB n b
def sameP (a b:yaJ):Bool:=eqD yaK a b
def sameOb (a b:yad):Bool:=eqS a.1 b.1&&allB sameV a.2.1 b.2.1
def sameUp (a b:yan):Bool:=(a.1==b.1)&&(eqS a.2.1 b.2.1&&(allB sameT a.2.2.1 b.2.2.1&&allB sameP a.2.2.2.1 b.2.2.2.1))
def sameBk (a b:yab):Bool:=eqS a.1 b.1&&(eqD ya4 a.2.1 b.2.1&&(allB sameR a.2.2.1 b.2.2.1&&(allB sameG a.2.2.2.1 b.2.2.2.1&&(allB sameOb a.2.2.2.2.1 b.2.2.2.2.1&&allB sameUp a.2.2.2.2.2.1 b.2.2.2.2.2.1))))
theorem ref13_J {n:Nat} (hn:n≤536870912) {a b:yad} (ha:ObB n a) (h:a.2.1.length=b.2.1.length):ybk.J2 n n (0,a,b,())=some (allB sameV a.2.1 b.2.1,()):=by
  have hl:=ha.len
  have:=zip_loop (Va.dflt yae) sameV (λm k=>ybk.J2 n m (k,a,b,())) h
      (λm k hk=>by
        try dsimp only
        rw[ybk.e2,yaN,decide_eq_true (by omega),yap,yaq ⟨by omega,by omega⟩,yaq ⟨by omega,by omega⟩,Int.toNat_natCast,sameV17 (by omega) (ha.vs _ (ybr hk)),bnd_some,ya7 k (by omega)]
        try dsimp only
        generalize sameV _ _=z;cases z<;>rfl)
      (λm=>by
        try dsimp only
        rw[ybk.e2,yaN,decide_eq_false (by omega),yam,ybk.e3]) n 0 (by omega) (by omega)
  try dsimp only at this
  rw[show ((0:Nat):Int)=0 from rfl,List.drop_zero,List.drop_zero]at this
  exact this
theorem ref13_Same {n:Nat}(hn:n≤536870912){a b:yad}(ha:ObB n a):ybk.f n a b=some (sameOb a b,()):=by
  rw[ybk.e0,ybk.e1,yaS,yaS,ne_len]
  unfold sameOb
  by_cases h:a.2.1.length=b.2.1.length
  · rw[ref13_J hn ha h,decide_eq_true h]
    cases eqS a.1 b.1<;>rfl
  · rw[allB_len _ _ h,decide_eq_false h]
    cases eqS a.1 b.1<;>rfl
theorem ref15_JP {n:Nat} (hn:n≤536870912) {a b:yan} (ha:UpB n a) (h:a.2.2.2.1.length=b.2.2.2.1.length):ybe.J2 n n (0,a,b,())=some (allB sameP a.2.2.2.1 b.2.2.2.1,()):=by
  have hl:=ha.ps
  have:=zip_loop (Va.dflt yaK) sameP (λm k=>ybe.J2 n m (k,a,b,())) h
      (λm k hk=>by
        try dsimp only
        rw[ybe.e2,yaN,decide_eq_true (by omega),yap,yaq ⟨by omega,by omega⟩,yaq ⟨by omega,by omega⟩,Int.toNat_natCast,ya7 k (by omega)]
        try dsimp only
        rw[yaN];change bIf (!sameP _ _) _ _=bIf (sameP _ _) _ _;generalize sameP _ _=z;cases z<;>rfl)
      (λm=>by
        try dsimp only
        rw[ybe.e2,yaN,decide_eq_false (by omega),yam,ybe.e3]) n 0 (by omega) (by omega)
  try dsimp only at this
  rw[show ((0:Nat):Int)=0 from rfl,List.drop_zero,List.drop_zero]at this
  exact this
theorem ref15_sameUpload {n:Nat}(hn:n≤536870912){a b:yan}(ha:UpB n a):ybe.f n a b=some (sameUp a b,()):=by
  rw[ybe.e0,ybe.e1,yaS,yaS,yaS,ne_len,same32 hn ha.tg,bnd_some,bne]
  unfold sameUp
  by_cases h:a.2.2.2.1.length=b.2.2.2.1.length
  · rw[ref15_JP hn ha h,decide_eq_true h]
    cases (a.1==b.1)<;>cases eqS a.2.1 b.2.1<;>cases allB sameT a.2.2.1 b.2.2.1<;>rfl
  · rw[allB_len a.2.2.2.1 _ h,decide_eq_false h]
    cases (a.1==b.1)<;>cases eqS a.2.1 b.2.1<;>cases allB sameT a.2.2.1 b.2.2.1<;>rfl
theorem ref15_JU {n:Nat} (hn:n≤536870912) {a b:yab} (ha:BkB n a) (h:a.2.2.2.2.2.1.length=b.2.2.2.2.2.1.length):yaM.J4 n n (0,a,b,())=some (allB sameUp a.2.2.2.2.2.1 b.2.2.2.2.2.1,()):=by
  have hl:=ha.ul
  have:=zip_loop (Va.dflt yal) sameUp (λm k=>yaM.J4 n m (k,a,b,())) h
      (λm k hk=>by
        try dsimp only
        rw[yaM.e4,yaN,decide_eq_true (by omega),yap,yaq ⟨by omega,by omega⟩,yaq ⟨by omega,by omega⟩,Int.toNat_natCast,ref15_sameUpload hn (ha.up _ (ybr hk)),bnd_some,ya7 k (by omega)]
        try dsimp only
        generalize sameUp _ _=z;cases z<;>rfl)
      (λm=>by
        try dsimp only
        rw[yaM.e4,yaN,decide_eq_false (by omega),yam,yaM.e5]) n 0 (by omega) (by omega)
  try dsimp only at this
  rw[show ((0:Nat):Int)=0 from rfl,List.drop_zero,List.drop_zero]at this
  exact this
theorem zip_loop2 {α:Type}{a b:List α}(d:α)(q:α→α→Bool)(J:Nat→Int→Option (Bool×Unit))(E:Option (Bool×Unit))(hab:a.length=b.length)
    (hs:∀ m (k:Nat),k<a.length→J (m+1) (k:Int)=bIf (q (a.getD k d) (b.getD k d)) (J m ((k+1:Nat):Int)) (some (false,())))
    (he:∀ m,J (m+1) ((a.length:Nat):Int)=E) :
    ∀ (m k:Nat),k≤a.length→a.length-k<m→J m (k:Int)=bIf (allB q (a.drop k) (b.drop k)) E (some (false,()))
  | 0,k,_,h=>by omega
  | m + 1,k,hk,h=>by
    by_cases hlt:k<a.length
    · rw[hs m k hlt,zip_loop2 d q J E hab hs he m (k+1) (by omega) (by omega),allB_step d hlt (by omega)]
      cases q (a.getD k d) (b.getD k d)<;>rfl
    · have:k=a.length:=by omega
      subst this
      rw[he,allB_end (by omega) (by omega)];rfl
theorem ref15_JO {n:Nat} (hn:n≤536870912) {a b:yab} (ha:BkB n a) (h:a.2.2.2.2.1.length=b.2.2.2.2.1.length) (h2:a.2.2.2.2.2.1.length=b.2.2.2.2.2.1.length) :
    yaM.J2 n n (0,a,b,())=some (allB sameOb a.2.2.2.2.1 b.2.2.2.2.1&&allB sameUp a.2.2.2.2.2.1 b.2.2.2.2.2.1,()):=by
  have hl:=ha.ol
  have:=zip_loop2 (Va.dflt yag) sameOb (λm k=>yaM.J2 n m (k,a,b,())) (yaM.J3 n (a,b,())) h
      (λm k hk=>by
        try dsimp only
        rw[yaM.e2,yaN,decide_eq_true (by omega),yap,yaq ⟨by omega,by omega⟩,yaq ⟨by omega,by omega⟩,Int.toNat_natCast,ref13_Same hn (ha.ob _ (ybr hk)),bnd_some,ya7 k (by omega)]
        try dsimp only
        generalize sameOb _ _=z;cases z<;>rfl)
      (λm=>by
        try dsimp only
        rw[yaM.e2,yaN,decide_eq_false (by omega),yam]) n 0 (by omega) (by omega)
  try dsimp only at this
  rw[show ((0:Nat):Int)=0 from rfl,List.drop_zero,List.drop_zero,yaM.e3,ref15_JU hn ha h2]at this
  rw[this]
  cases allB sameOb a.2.2.2.2.1 b.2.2.2.2.1<;>rfl
theorem ref15_SameBucket {n:Nat}(hn:n≤536870912){a b:yab}(ha:BkB n a):yaM.f n a b=some (sameBk a b,()):=by
  rw[yaM.e0,yaM.e1,yaS,yaS,yaS,yaS,ne_len,ne_len,ref14_SameRules hn ha.ru,bnd_some,ref14_SameGrants hn ha.gr,bnd_some]
  unfold sameBk
  by_cases h:a.2.2.2.2.1.length=b.2.2.2.2.1.length
  · by_cases h2:a.2.2.2.2.2.1.length=b.2.2.2.2.2.1.length
    · rw[ref15_JO hn ha h h2,decide_eq_true h,decide_eq_true h2]
      cases eqS a.1 b.1<;>cases eqD ya4 a.2.1 b.2.1<;>cases allB sameR a.2.2.1 b.2.2.1<;>cases allB sameG a.2.2.2.1 b.2.2.2.1<;>rfl
    · rw[allB_len a.2.2.2.2.2.1 _ h2,decide_eq_false h2,decide_eq_true h,Bool.and_false]
      cases eqS a.1 b.1<;>cases eqD ya4 a.2.1 b.2.1<;>cases allB sameR a.2.2.1 b.2.2.1<;>cases allB sameG a.2.2.2.1 b.2.2.2.1<;>rfl
  · rw[allB_len a.2.2.2.2.1 _ h,decide_eq_false h,Bool.false_and]
    cases eqS a.1 b.1<;>cases eqD ya4 a.2.1 b.2.1<;>cases allB sameR a.2.2.1 b.2.2.1<;>cases allB sameG a.2.2.2.1 b.2.2.2.1<;>rfl
end Go.Proofs.YtemhlkdingkjnaaGreatDoor
namespace Go.Proofs.YtemhlkdingkjnaaGreatDoor
open Go Go.Va Go.Proofs
noncomputable section
namespace yb3
abbrev ia:List Ai:=[.dat yah]
abbrev io:List (Nat×Oi):=[(2,.dat .bool)]
abbrev R:Type:=DOut ia io
def X (n:Nat):Ctx:=⟨⟨tab,[],0,[]⟩,67,bnOf 0 ia⟩
abbrev g1:List Si:=[.ref 1 1 yah,.dat 3 (.int .i64),.dat 4 (.int .i64),.box 1 (.d yah)]
abbrev g2:List Si:=[.ref 1 1 yah,.dat 3 (.int .i64),.dat 4 (.int .i64),.box 1 (.d yah)]
abbrev g3:List Si:=[.ref 1 1 yah,.dat 3 (.int .i64),.dat 4 (.int .i64),.dat 5 (.int .i64),.box 1 (.d yah)]
abbrev g4:List Si:=[.ref 1 1 yah,.dat 3 (.int .i64),.dat 4 (.int .i64),.dat 5 (.int .i64),.box 1 (.d yah)]
abbrev g5:List Si:=[.ref 1 1 yah,.dat 3 (.int .i64),.dat 4 (.int .i64),.box 1 (.d yah)]
abbrev g6:List Si:=[.dat 3 (.int .i64)]
def T:CT:=(.s .o (.s .o (.s (.s .o (.b (.l g1 (.s .o (.r g2 (.s (.b (.s .o (.s .o (.b (.l g3 (.s .o (.r g4 .o))))))) (.r g5 .o))))))) (.r g6 .o))))
def J1 (n:Nat)(m:Nat):Int×Int×yaf×Unit→Option R:=jL (X n) n T (yau Tryz.f7) (endK ia io) g1 [1,1,0,1,0] [] m
def J2 (n m1:Nat):Int×Int×yaf×Unit→Option R:=jR (X n) n T (yau Tryz.f7) (endK ia io) g2 [1,1,0,1,0,0,1] [m1]
def J3 (n m1:Nat)(m:Nat):Int×Int×Int×yaf×Unit→Option R:=jL (X n) n T (yau Tryz.f7) (endK ia io) g3 [1,1,0,1,0,0,1,0,0,1,1,0] [m1] m
def J4 (n m1 m3:Nat):Int×Int×Int×yaf×Unit→Option R:=jR (X n) n T (yau Tryz.f7) (endK ia io) g4 [1,1,0,1,0,0,1,0,0,1,1,0,0,1] [m1,m3]
def J5 (n m1:Nat):Int×Int×yaf×Unit→Option R:=jR (X n) n T (yau Tryz.f7) (endK ia io) g5 [1,1,0,1,0,0,1,1] [m1]
def J6 (n:Nat):Int×Unit→Option R:=jR (X n) n T (yau Tryz.f7) (endK ia io) g6 [1,1,1] []
def f (n:Nat)(s_:yaf):Option R:=fRun (X n) n T Tryz.f7 ia io (s_,())
theorem e0 (n:Nat)(s_:yaf):f n s_=J1 n n (((s_.2.2.2.1.length:Nat):Int),0,s_,()):=(yac _).trans (by kernel_rfl)
theorem e1 (n m:Nat)(n_:Int)(i:Int)(s_:yaf):J1 n (m+1) (n_,i,s_,())=bIf ((hide (decide (i<((s_.2.2.2.1.length:Nat):Int))))) (bIf ((hide (decide (n_<(400:Int))))) (J2 n m (n_,i,s_,())) (J6 n (n_,()))) (J6 n (n_,())):=(yac _).trans (by kernel_rfl)
theorem e2 (n m1:Nat)(n_:Int)(i:Int)(s_:yaf):J2 n m1 (n_,i,s_,())=gIf (0≤i∧i<((s_.2.2.2.1.length:Nat):Int)) (gIf (0≤i∧i<((s_.2.2.2.1.length:Nat):Int)) (J3 n m1 n ((IntKind.i64.wrap (n_+(IntKind.i64.wrap (((((((((List.getD s_.2.2.2.1 i.toNat (Va.dflt yaa)).2).2).2).2).1).length:Nat):Int)+(((((((((List.getD s_.2.2.2.1 i.toNat (Va.dflt yaa)).2).2).2).2).2).1).length:Nat):Int))))),i,0,s_,()))):=(yac _).trans (by kernel_rfl)
theorem e3 (n m1 m:Nat)(n_:Int)(i:Int)(k_:Int)(s_:yaf):J3 n m1 (m+1) (n_,i,k_,s_,())=gIf (0≤i∧i<((s_.2.2.2.1.length:Nat):Int)) (bIf ((hide (decide (k_<((((((((List.getD s_.2.2.2.1 i.toNat (Va.dflt yaa)).2).2).2).2).1).length:Nat):Int))))) (bIf ((hide (decide (n_<(400:Int))))) (J4 n m1 m (n_,i,k_,s_,())) (J5 n m1 (n_,i,s_,()))) (J5 n m1 (n_,i,s_,()))):=(yac _).trans (by kernel_rfl)
theorem e4 (n m1 m3:Nat)(n_:Int)(i:Int)(k_:Int)(s_:yaf):J4 n m1 m3 (n_,i,k_,s_,())=gIf (0≤i∧i<((s_.2.2.2.1.length:Nat):Int)) (gIf (0≤k_∧k_<((((((((List.getD s_.2.2.2.1 i.toNat (Va.dflt yaa)).2).2).2).2).1).length:Nat):Int)) (J3 n m1 m3 ((IntKind.i64.wrap (n_+(((((List.getD ((((((List.getD s_.2.2.2.1 i.toNat (Va.dflt yaa)).2).2).2).2).1) k_.toNat (Va.dflt yag)).2).1).length:Nat):Int))),i,(IntKind.i64.wrap (k_+(1:Int))),s_,()))):=(yac _).trans (by kernel_rfl)
theorem e5 (n m1:Nat)(n_:Int)(i:Int)(s_:yaf):J5 n m1 (n_,i,s_,())=J1 n m1 (n_,(IntKind.i64.wrap (i+(1:Int))),s_,()):=(yac _).trans (by kernel_rfl)
theorem e6 (n:Nat)(n_:Int):J6 n (n_,())=some ((hide (decide (n_≥(400:Int)))),()):=(yac _).trans (by kernel_rfl)
theorem ok (n:Nat):FnOk Tryz.prog 7 ia io (fRun (X n) n T Tryz.f7 ia io):=yaA mixed tabIs (yas) Tryz.func7 (by kernel_rfl) rfl
def en (n:Nat):Entry:=yaw 7 ia io (fRun (X n) n T Tryz.f7 ia io)
end yb3
end
end Go.Proofs.YtemhlkdingkjnaaGreatDoor
namespace Go.Proofs.YtemhlkdingkjnaaGreatDoor
open Go Go.Va Go.Proofs
theorem sameR_refl (a:yaE):sameR a a=true:=by
  unfold sameR
  rw[ycV,beq_self_eq_true,beq_self_eq_true,beq_self_eq_true,ydF _ (λt _=>sameT_refl t)];rfl
theorem eqD_intR:∀ (l:List Int) (k:IntKind) (n:Nat),eqD (.arr n (.int k)) l l=true
  | [],_,_=>rfl
  | x::l,k,n=>by
    have ih:=eqD_intR l k n
    change (decide (x=x)&&eqL (eqD (.int k)) l l)=true
    have ih:eqL (eqD (.int k)) l l=true:=ih
    rw[ih,decide_eq_true rfl];rfl
theorem sameG_refl (a:yaH):sameG a a=true:=by
  obtain⟨b,x,y,z,u⟩:=a
  unfold sameG
  simp only[eqD]
  simp[ba_beq]
theorem sameP_refl (a:yaJ):sameP a a=true:=by
  obtain⟨x,y,z,d,u⟩:=a
  change (decide (x=x)&&(decide (y=y)&&(decide (z=z)&&(eqD (.arr 32 (.int .u8)) d d&&true))))=true
  rw[decide_eq_true rfl,decide_eq_true rfl,decide_eq_true rfl,eqD_intR];rfl
theorem sameV_refl' (a:Ver):sameV a a=true:=by
  unfold sameV
  rw[ydF _ (λt _=>sameT_refl t),beq_self_eq_true,beq_self_eq_true,beq_self_eq_true,beq_self_eq_true,beq_self_eq_true,eqD_intR]
  obtain⟨x,y,z,u⟩:=lock a
  change (true&&(true&&(true&&(true&&(true&&(true&&(true&&(decide (x=x)&&(decide (y=y)&&((z==z)&&true))))))))))=true
  rw[decide_eq_true rfl,decide_eq_true rfl,beq_self_eq_true];rfl
theorem sameOb_refl (a:yad):sameOb a a=true:=by
  unfold sameOb
  rw[ycV,ydF _ (λt _=>sameV_refl' t)];rfl
theorem sameUp_refl (a:yan):sameUp a a=true:=by
  unfold sameUp
  rw[ycV,beq_self_eq_true,ydF _ (λt _=>sameT_refl t),ydF _ (λt _=>sameP_refl t)];rfl
theorem sameBk_refl (a:yab):sameBk a a=true:=by
  unfold sameBk
  rw[ycV,ydF _ (λt _=>sameR_refl t),ydF _ (λt _=>sameG_refl t),ydF _ (λt _=>sameOb_refl t),ydF _ (λt _=>sameUp_refl t)]
  obtain⟨x,y,u⟩:=a.2.1
  change (true&&((decide (x=x)&&(decide (y=y)&&true))&&(true&&(true&&(true&&true)))))=true
  rw[decide_eq_true rfl,decide_eq_true rfl];rfl
theorem big_J3 {n:Nat} (hn:n≤536870912) {s:yaf} {i:Nat} (hi:i<s.2.2.2.1.length) (m1:Nat):∀ (m k:Nat) (c:Int),((s.2.2.2.1.getD i (Va.dflt yaa)).2.2.2.2.1).length<n→k≤((s.2.2.2.1.getD i (Va.dflt yaa)).2.2.2.2.1).length →
    ((s.2.2.2.1.getD i (Va.dflt yaa)).2.2.2.2.1).length-k<m→∃ c',yb3.J3 n m1 m (c,(i:Int),(k:Int),s,())=yb3.J5 n m1 (c',(i:Int),s,())
  | 0,k,c,_,_,h=>by omega
  | m + 1,k,c,hlen,hk,h=>by
    rw[yb3.e3,yaq ⟨by omega,by omega⟩,Int.toNat_natCast,yaS,yaS]
    by_cases hlt:k<((s.2.2.2.1.getD i (Va.dflt yaa)).2.2.2.2.1).length
    · rw[decide_eq_true (by omega),yap]
      cases hc:decide (c<400)
      · exact⟨c,by rw[yam]⟩
      · rw[yap,yb3.e4,yaq ⟨by omega,by omega⟩,Int.toNat_natCast,yaq ⟨by omega,by omega⟩,ya7 k (by omega)]
        exact big_J3 hn hi m1 m (k+1) _ hlen (by omega) (by omega)
    · rw[decide_eq_false (by omega),yam]
      exact⟨c,rfl⟩
theorem big_J1 {n:Nat} (hn:n≤536870912) {s:yaf} (hs:StB n s):∀ (m i:Nat) (c:Int),i≤s.2.2.2.1.length→s.2.2.2.1.length-i<m→∃ x,yb3.J1 n m (c,(i:Int),s,())=some (x,())
  | 0,i,c,_,h=>by omega
  | m + 1,i,c,hi,h=>by
    have hlen:=hs.len
    rw[yb3.e1,yaS,yaS]
    by_cases hlt:i<s.2.2.2.1.length
    · rw[decide_eq_true (by omega),yap]
      cases hc:decide (c<400)
      · rw[yam,yb3.e6];exact⟨_,rfl⟩
      · rw[yap,yb3.e2,yaq ⟨by omega,by omega⟩,yaq ⟨by omega,by omega⟩,Int.toNat_natCast]
        have hb:=hs.bk _ (ybr (d:=Va.dflt yaa) hlt)
        have hol:=hb.ol
        obtain⟨c',e⟩:=big_J3 hn hlt m n 0 (IntKind.i64.wrap (c+(IntKind.i64.wrap ((((s.2.2.2.1.getD i (Va.dflt yaa)).2.2.2.2.1).length:Nat)+(((s.2.2.2.1.getD i (Va.dflt yaa)).2.2.2.2.2.1).length:Nat))))) hol (by omega) (by omega)
        rw[show ((0:Nat):Int)=0 from rfl]at e
        have e2:=λx=>yb3.e5 n m x (i:Int) s
        rw[e,e2,ya7 i (by omega)]
        exact big_J1 hn hs m (i+1) c' (by omega) (by omega)
    · rw[decide_eq_false (by omega),yam,yb3.e6];exact⟨_,rfl⟩
theorem big_any {n:Nat}(hn:n≤536870912){s:yaf}(hs:StB n s):∃ x,yb3.f n s=some (x,()):=by
  rw[yb3.e0]
  have hlen:=hs.len
  have:=big_J1 hn hs n 0 ((s.2.2.2.1.length:Nat):Int) (by omega) (by omega)
  rw[show ((0:Nat):Int)=0 from rfl]at this
  exact this
end Go.Proofs.YtemhlkdingkjnaaGreatDoor
namespace Go.Proofs.YtemhlkdingkjnaaGreatDoor
open Go Go.Va Go.Proofs
noncomputable section
namespace ya6
abbrev ia:List Ai:=[.dat yaR,.dat .str]
abbrev io:List (Nat×Oi):=[(4,.dat (.int .i64))]
abbrev R:Type:=DOut ia io
def X (n:Nat):Ctx:=⟨⟨tab,[],0,[]⟩,22,bnOf 0 ia⟩
abbrev g1:List Si:=[.dat 1 .str,.ref 2 2 yaR,.dat 5 (.int .i64),.box 2 (.d yaR)]
abbrev g2:List Si:=[]
def T:CT:=(.s .o (.s (.s .o (.b (.l g1 .o))) (.r g2 .o)))
def J1 (n:Nat)(m:Nat):ByteArray×Int×yaz×Unit→Option R:=jL (X n) n T (yau Tryz.f15) (endK ia io) g1 [1,0,1,0] [] m
def J2 (n:Nat):Unit→Option R:=jR (X n) n T (yau Tryz.f15) (endK ia io) g2 [1,1] []
def f (n:Nat)(f_:yaz)(name:ByteArray):Option R:=fRun (X n) n T Tryz.f15 ia io (f_,name,())
theorem e0 (n:Nat)(f_:yaz)(name:ByteArray):f n f_ name=J1 n n (name,0,f_,()):=(yac _).trans (by kernel_rfl)
theorem e1 (n m:Nat)(name:ByteArray)(i:Int)(f_:yaz):J1 n (m+1) (name,i,f_,())=bIf ((hide (decide (i<((f_.2.2.2.1.length:Nat):Int))))) (gIf (0≤i∧i<((f_.2.2.2.1.length:Nat):Int)) (bIf ((hide (eqS ((List.getD f_.2.2.2.1 i.toNat (Va.dflt yaa)).1) name))) (some (i,())) (J1 n m (name,(IntKind.i64.wrap (i+(1:Int))),f_,())))) (J2 n (())):=(yac _).trans (by kernel_rfl)
theorem e2 (n:Nat):J2 n (())=some ((-1),()):=(yac _).trans (by kernel_rfl)
theorem ok (n:Nat):FnOk Tryz.prog 15 ia io (fRun (X n) n T Tryz.f15 ia io):=yaA mixed tabIs (yas) Tryz.func15 (by kernel_rfl) rfl
def en (n:Nat):Entry:=yaw 15 ia io (fRun (X n) n T Tryz.f15 ia io)
end ya6
namespace yaU
abbrev ia:List Ai:=[.dat yaR,.dat .str,.dat .str,.dat (.int .u64)]
abbrev io:List (Nat×Oi):=[(8,.dat (.int .i64))]
abbrev R:Type:=DOut ia io
def X (n:Nat):Ctx:=⟨⟨tab,[],0,[]⟩,41,bnOf 0 ia⟩
abbrev g1:List Si:=[.dat 1 .str,.dat 2 .str,.dat 3 (.int .u64),.ref 4 4 yaR,.dat 9 (.int .i64),.box 4 (.d yaR)]
abbrev g2:List Si:=[.dat 1 .str,.dat 2 .str,.dat 3 (.int .u64),.ref 4 4 yaR,.dat 9 (.int .i64),.box 4 (.d yaR)]
abbrev g3:List Si:=[]
def T:CT:=(.s .o (.s (.s .o (.b (.l g1 (.s .o (.s .o (.r g2 .o)))))) (.r g3 .o)))
def J1 (n:Nat)(m:Nat):ByteArray×ByteArray×Int×Int×yaz×Unit→Option R:=jL (X n) n T (yau Tryz.f19) (endK ia io) g1 [1,0,1,0] [] m
def J2 (n m1:Nat):ByteArray×ByteArray×Int×Int×yaz×Unit→Option R:=jR (X n) n T (yau Tryz.f19) (endK ia io) g2 [1,0,1,0,0,1,1] [m1]
def J3 (n:Nat):Unit→Option R:=jR (X n) n T (yau Tryz.f19) (endK ia io) g3 [1,1] []
def f (n:Nat)(f_:yaz)(bucket:ByteArray)(key:ByteArray)(id:Int):Option R:=fRun (X n) n T Tryz.f19 ia io (f_,bucket,key,id,())
theorem e0 (n:Nat)(f_:yaz)(bucket:ByteArray)(key:ByteArray)(id:Int):f n f_ bucket key id=J1 n n (bucket,key,id,0,f_,()):=(yac _).trans (by kernel_rfl)
theorem e1 (n m:Nat)(bucket:ByteArray)(key:ByteArray)(id:Int)(i:Int)(f_:yaz):J1 n (m+1) (bucket,key,id,i,f_,())=bIf ((hide (decide (i<((f_.2.2.2.2.1.length:Nat):Int))))) (gIf (0≤i∧i<((f_.2.2.2.2.1.length:Nat):Int)) (bIf ((hide (eqS ((List.getD f_.2.2.2.2.1 i.toNat (Va.dflt yaB)).1) bucket))) (bIf ((hide (eqS (((List.getD f_.2.2.2.2.1 i.toNat (Va.dflt yaB)).2).1) key))) (bIf ((hide ((((((List.getD f_.2.2.2.2.1 i.toNat (Va.dflt yaB)).2).2).1).1)==id))) (some (i,())) (J2 n m (bucket,key,id,i,f_,()))) (J2 n m (bucket,key,id,i,f_,()))) (J2 n m (bucket,key,id,i,f_,())))) (J3 n (())):=(yac _).trans (by kernel_rfl)
theorem e2 (n m1:Nat)(bucket:ByteArray)(key:ByteArray)(id:Int)(i:Int)(f_:yaz):J2 n m1 (bucket,key,id,i,f_,())=J1 n m1 (bucket,key,id,(IntKind.i64.wrap (i+(1:Int))),f_,()):=(yac _).trans (by kernel_rfl)
theorem e3 (n:Nat):J3 n (())=some ((-1),()):=(yac _).trans (by kernel_rfl)
theorem ok (n:Nat):FnOk Tryz.prog 19 ia io (fRun (X n) n T Tryz.f19 ia io):=yaA mixed tabIs (yas) Tryz.func19 (by kernel_rfl) rfl
def en (n:Nat):Entry:=yaw 19 ia io (fRun (X n) n T Tryz.f19 ia io)
end yaU
namespace ybg
abbrev ia:List Ai:=[.dat yah,.dat .str,.dat .str]
abbrev io:List (Nat×Oi):=[(6,.cel (.d yag)),(7,.dat .bool)]
abbrev R:Type:=DOut ia io
def X (n:Nat):Ctx:=⟨⟨tab,[],0,[]⟩,60,bnOf 0 ia⟩
abbrev g1:List Si:=[.dat 1 .str,.dat 2 .str,.ref 3 3 yah,.ref 6 6 yag,.dat 8 (.int .i64),.box 3 (.d yah),.box 6 (.p (.d .str) (.p (.r 100000000006000 yae) (.d .unit)))]
abbrev g2:List Si:=[.dat 1 .str,.dat 2 .str,.ref 3 3 yah,.ref 6 6 yag,.dat 8 (.int .i64),.dat 9 (.int .i64),.box 3 (.d yah),.box 6 (.p (.d .str) (.p (.r 100000000006000 yae) (.d .unit)))]
abbrev g3:List Si:=[.dat 1 .str,.dat 2 .str,.ref 3 3 yah,.ref 6 6 yag,.dat 8 (.int .i64),.dat 9 (.int .i64),.box 3 (.d yah),.box 6 (.p (.d .str) (.p (.r 100000000006000 yae) (.d .unit)))]
abbrev g4:List Si:=[.dat 1 .str,.dat 2 .str,.ref 3 3 yah,.ref 6 6 yag,.dat 8 (.int .i64),.box 3 (.d yah),.box 6 (.p (.d .str) (.p (.r 100000000006000 yae) (.d .unit)))]
abbrev g5:List Si:=[.ref 6 6 yag,.box 6 (.p (.d .str) (.p (.r 100000000006000 yae) (.d .unit)))]
def T:CT:=(.s .o (.s (.s .o (.b (.l g1 (.s .o (.s (.b (.s .o (.b (.l g2 (.s .o (.r g3 .o)))))) (.r g4 .o)))))) (.r g5 .o)))
def J1 (n:Nat)(m:Nat):ByteArray×ByteArray×Int×yaf×yad×Unit→Option R:=jL (X n) n T (yau Tryz.f17) (endK ia io) g1 [1,0,1,0] [] m
def J2 (n m1:Nat)(m:Nat):ByteArray×ByteArray×Int×Int×yaf×yad×Unit→Option R:=jL (X n) n T (yau Tryz.f17) (endK ia io) g2 [1,0,1,0,0,1,0,0,1,0] [m1] m
def J3 (n m1 m2:Nat):ByteArray×ByteArray×Int×Int×yaf×yad×Unit→Option R:=jR (X n) n T (yau Tryz.f17) (endK ia io) g3 [1,0,1,0,0,1,0,0,1,0,0,1] [m1,m2]
def J4 (n m1:Nat):ByteArray×ByteArray×Int×yaf×yad×Unit→Option R:=jR (X n) n T (yau Tryz.f17) (endK ia io) g4 [1,0,1,0,0,1,1] [m1]
def J5 (n:Nat):yad×Unit→Option R:=jR (X n) n T (yau Tryz.f17) (endK ia io) g5 [1,1] []
def f (n:Nat)(s_:yaf)(bucket:ByteArray)(key:ByteArray):Option R:=fRun (X n) n T Tryz.f17 ia io (s_,bucket,key,())
theorem e0 (n:Nat)(s_:yaf)(bucket:ByteArray)(key:ByteArray):f n s_ bucket key=J1 n n (bucket,key,0,s_,((⟨#[]⟩:ByteArray),([],())),()):=(yac _).trans (by kernel_rfl)
theorem e1 (n m:Nat)(bucket:ByteArray)(key:ByteArray)(i:Int)(s_:yaf)(b6:yad):J1 n (m+1) (bucket,key,i,s_,b6,())=bIf ((hide (decide (i<((s_.2.2.2.1.length:Nat):Int))))) (J2 n m n (bucket,key,i,0,s_,b6,())) (J5 n (b6,())):=(yac _).trans (by kernel_rfl)
theorem e2 (n m1 m:Nat)(bucket:ByteArray)(key:ByteArray)(i:Int)(k_:Int)(s_:yaf)(b6:yad):J2 n m1 (m+1) (bucket,key,i,k_,s_,b6,())=gIf (0≤i∧i<((s_.2.2.2.1.length:Nat):Int)) (bIf ((hide (eqS ((List.getD s_.2.2.2.1 i.toNat (Va.dflt yaa)).1) bucket))) (gIf (0≤i∧i<((s_.2.2.2.1.length:Nat):Int)) (bIf ((hide (decide (k_<((((((((List.getD s_.2.2.2.1 i.toNat (Va.dflt yaa)).2).2).2).2).1).length:Nat):Int))))) (J3 n m1 m (bucket,key,i,k_,s_,b6,())) (J4 n m1 (bucket,key,i,s_,b6,())))) (J4 n m1 (bucket,key,i,s_,b6,()))):=(yac _).trans (by kernel_rfl)
theorem e3 (n m1 m2:Nat)(bucket:ByteArray)(key:ByteArray)(i:Int)(k_:Int)(s_:yaf)(b6:yad):J3 n m1 m2 (bucket,key,i,k_,s_,b6,())=gIf (0≤i∧i<((s_.2.2.2.1.length:Nat):Int)) (gIf (0≤k_∧k_<((((((((List.getD s_.2.2.2.1 i.toNat (Va.dflt yaa)).2).2).2).2).1).length:Nat):Int)) (bIf ((hide (eqS ((List.getD ((((((List.getD s_.2.2.2.1 i.toNat (Va.dflt yaa)).2).2).2).2).1) k_.toNat (Va.dflt yag)).1) key))) (gIf (0≤i∧i<((s_.2.2.2.1.length:Nat):Int)) (gIf (0≤k_∧k_<((((((((List.getD s_.2.2.2.1 i.toNat (Va.dflt yaa)).2).2).2).2).1).length:Nat):Int)) (some ((List.getD ((((((List.getD s_.2.2.2.1 i.toNat (Va.dflt yaa)).2).2).2).2).1) k_.toNat (Va.dflt yag)),true,())))) (J2 n m1 m2 (bucket,key,i,(IntKind.i64.wrap (k_+(1:Int))),s_,b6,())))):=(yac _).trans (by kernel_rfl)
theorem e4 (n m1:Nat)(bucket:ByteArray)(key:ByteArray)(i:Int)(s_:yaf)(b6:yad):J4 n m1 (bucket,key,i,s_,b6,())=J1 n m1 (bucket,key,(IntKind.i64.wrap (i+(1:Int))),s_,b6,()):=(yac _).trans (by kernel_rfl)
theorem e5 (n:Nat)(b6:yad):J5 n (b6,())=some (((⟨#[]⟩:ByteArray),([],())),false,()):=(yac _).trans (by kernel_rfl)
theorem ok (n:Nat):FnOk Tryz.prog 17 ia io (fRun (X n) n T Tryz.f17 ia io):=yaA mixed tabIs (yas) Tryz.func17 (by kernel_rfl) rfl
def en (n:Nat):Entry:=yaw 17 ia io (fRun (X n) n T Tryz.f17 ia io)
end ybg
namespace yaG
abbrev ia:List Ai:=[.dat (.slice yag),.dat yag,.fn (.fn 36) []]
abbrev io:List (Nat×Oi):=[(6,.dat (.int .i64)),(7,.dat .bool)]
abbrev R:Type:=DOut ia io
def X (n:Nat):Ctx:=⟨⟨tab,[ybX.en n],0,[]⟩,49,bnOf 0 ia⟩
abbrev g1:List Si:=[.dat 0 (.slice yag),.clo 2 (.fn 36) [],.ref 4 4 yag,.dat 8 (.int .i64),.dat 9 (.int .i64),.dat 10 (.int .i64),.box 4 (.d yag)]
abbrev g2:List Si:=[.dat 0 (.slice yag),.clo 2 (.fn 36) [],.ref 4 4 yag,.dat 8 (.int .i64),.dat 9 (.int .i64),.box 4 (.d yag)]
def T:CT:=(.s .o (.s .o (.s .o (.s (.b (.l g1 .o)) (.r g2 .o)))))
def J1 (n:Nat)(m:Nat):(List (yad))×Int×Int×Int×yad×Unit→Option R:=jL (X n) n T (yau Tryz.f75) (endK ia io) g1 [1,1,1,0,0] [] m
def J2 (n:Nat):(List (yad))×Int×Int×yad×Unit→Option R:=jR (X n) n T (yau Tryz.f75) (endK ia io) g2 [1,1,1,1] []
def f (n:Nat)(x_:List (yad))(target:yad):Option R:=fRun (X n) n T Tryz.f75 ia io (x_,target,())
theorem e0 (n:Nat)(x_:List (yad))(target:yad):f n x_ target=J1 n n (x_,((x_.length:Nat):Int),0,((x_.length:Nat):Int),target,()):=(yac _).trans (by kernel_rfl)
theorem e1 (n m:Nat)(x_:List (yad))(n_:Int)(i:Int)(j:Int)(target:yad):J1 n (m+1) (x_,n_,i,j,target,())=bIf ((hide (decide (i<j)))) (gNo ((1:Int)<0) (gIf (0≤(IntKind.i64.wrap (shrI .u64 (IntKind.u64.wrap (IntKind.i64.wrap (i+j))) 1))∧(IntKind.i64.wrap (shrI .u64 (IntKind.u64.wrap (IntKind.i64.wrap (i+j))) 1))<((x_.length:Nat):Int)) (bnd (ybX.f n (List.getD x_ ((IntKind.i64.wrap (shrI .u64 (IntKind.u64.wrap (IntKind.i64.wrap (i+j))) 1)).toNat) (Va.dflt yag)) target) λu1=>bIf ((hide (decide (u1.1<(0:Int))))) (J1 n m (x_,n_,(IntKind.i64.wrap ((IntKind.i64.wrap (shrI .u64 (IntKind.u64.wrap (IntKind.i64.wrap (i+j))) 1))+(1:Int))),j,target,())) (J1 n m (x_,n_,i,(IntKind.i64.wrap (shrI .u64 (IntKind.u64.wrap (IntKind.i64.wrap (i+j))) 1)),target,()))))) (J2 n (x_,n_,i,target,())):=(yac _).trans (by kernel_rfl)
theorem e2 (n:Nat)(x_:List (yad))(n_:Int)(i:Int)(target:yad):J2 n (x_,n_,i,target,())=bIf ((hide (decide (i<n_)))) (gIf (0≤i∧i<((x_.length:Nat):Int)) (bnd (ybX.f n (List.getD x_ i.toNat (Va.dflt yag)) target) λu1=>some (i,(hide (u1.1==(0:Int))),()))) (some (i,false,())):=(yac _).trans (by kernel_rfl)
theorem ok (n:Nat):FnOk Tryz.prog 75 ia io (fRun (X n) n T Tryz.f75 ia io):=yaA mixed tabIs (yaj (yai (ybX.ok n)) (yas)) Tryz.func75 (by kernel_rfl) rfl
def en (n:Nat):Entry:=yaw 75 ia io (fRun (X n) n T Tryz.f75 ia io)
end yaG
namespace yb6
abbrev ia:List Ai:=[.dat (.slice yag),.dat yag,.fn (.fn 36) []]
abbrev io:List (Nat×Oi):=[(6,.dat (.int .i64)),(7,.dat .bool)]
abbrev R:Type:=DOut ia io
def X (n:Nat):Ctx:=⟨⟨tab,[yaG.en n],0,[]⟩,14,bnOf 0 ia⟩
def T:CT := .o
def f (n:Nat)(list:List (yad))(x_:yad):Option R:=fRun (X n) n T Tryz.f35 ia io (list,x_,())
theorem e0 (n:Nat)(list:List (yad))(x_:yad):f n list x_=bnd (yaG.f n list x_) λu1=>some (u1.1,u1.2.1,()):=(yac _).trans (by kernel_rfl)
theorem ok (n:Nat):FnOk Tryz.prog 35 ia io (fRun (X n) n T Tryz.f35 ia io):=yaA mixed tabIs (yaj (yai (yaG.ok n)) (yas)) Tryz.func35 (by kernel_rfl) rfl
def en (n:Nat):Entry:=yaw 35 ia io (fRun (X n) n T Tryz.f35 ia io)
end yb6
namespace yct
abbrev ia:List Ai:=[.dat yah,.dat .str,.dat .str]
abbrev io:List (Nat×Oi):=[(6,.cel (.d yag)),(7,.dat (.int .i64))]
abbrev R:Type:=DOut ia io
def X (n:Nat):Ctx:=⟨⟨tab,[ybA.en n,yb6.en n],0,[]⟩,38,bnOf 0 ia⟩
def T:CT := .o
def f (n:Nat)(s_:yaf)(bucket:ByteArray)(key:ByteArray):Option R:=fRun (X n) n T Tryz.f10 ia io (s_,bucket,key,())
theorem e0 (n:Nat)(s_:yaf)(bucket:ByteArray)(key:ByteArray):f n s_ bucket key=bnd (ybA.f n s_ bucket) λu1=>bIf ((hide (u1.2.1 != (0:Int)))) (some (((⟨#[]⟩:ByteArray),([],())),u1.2.1,())) (bnd (yb6.f n u1.1.2.2.2.2.1 (key,([],()))) λu2=>bIf ((!u2.2.1)) (some (((⟨#[]⟩:ByteArray),([],())),7,())) (gIf (0≤u2.1∧u2.1<((u1.1.2.2.2.2.1.length:Nat):Int)) (some ((List.getD u1.1.2.2.2.2.1 (0+u2.1.toNat) (Va.dflt yag)),0,())))):=(yac _).trans (by kernel_rfl)
theorem ok (n:Nat):FnOk Tryz.prog 10 ia io (fRun (X n) n T Tryz.f10 ia io):=yaA mixed tabIs (yaj (yai (ybA.ok n)) (yaj (yai (yb6.ok n)) (yas))) Tryz.func10 (by kernel_rfl) rfl
def en (n:Nat):Entry:=yaw 10 ia io (fRun (X n) n T Tryz.f10 ia io)
end yct
namespace ycR
abbrev ia:List Ai:=[.dat yae,.ptr (.d (.int .u64))]
abbrev io:List (Nat×Oi):=[(3,.dat .bool)]
abbrev R:Type:=DOut ia io
def X (n:Nat):Ctx:=⟨⟨tab,[],0,[]⟩,8,bnOf 0 ia⟩
def T:CT := .o
def f (n:Nat)(v_:yak)(t1:Int):Option R:=fRun (X n) n T Tryz.f121 ia io (v_,t1,())
theorem e0 (n:Nat)(v_:yak)(t1:Int):f n v_ t1=some ((hide (v_.1==t1)),t1,()):=(yac _).trans (by kernel_rfl)
theorem ok (n:Nat):FnOk Tryz.prog 121 ia io (fRun (X n) n T Tryz.f121 ia io):=yaA mixed tabIs (yas) Tryz.func121 (by kernel_rfl) rfl
def en (n:Nat):Entry:=yaw 121 ia io (fRun (X n) n T Tryz.f121 ia io)
end ycR
namespace yaL
abbrev ia:List Ai:=[.dat (.slice yae),.fn (.fn 121) [(.d (.int .u64))]]
abbrev io:List (Nat×Oi):=[(4,.dat (.int .i64))]
abbrev R:Type:=DOut ia io
def X (n:Nat):Ctx:=⟨⟨tab,[ycR.en n],0,[]⟩,19,bnOf 0 ia⟩
abbrev g1:List Si:=[.dat 0 (.slice yae),.clo 1 (.fn 121) [(502000,(.int .u64),false)],.dat 7 (.int .i64),.dat 8 (.int .i64),.box 502000 (.d (.int .u64))]
abbrev g2:List Si:=[.box 502000 (.d (.int .u64))]
def T:CT:=(.s .o (.s (.s .o (.b (.l g1 .o))) (.r g2 .o)))
def J1 (n:Nat)(m:Nat):(List (yak))×Int×Int×Int×Unit→Option R:=jL (X n) n T (yau Tryz.f120) (endK ia io) g1 [1,0,1,0] [] m
def J2 (n:Nat):Int×Unit→Option R:=jR (X n) n T (yau Tryz.f120) (endK ia io) g2 [1,1] []
def f (n:Nat)(s_:List (yak))(fc0:Int):Option R:=fRun (X n) n T Tryz.f120 ia io (s_,fc0,())
theorem e0 (n:Nat)(s_:List (yak))(fc0:Int):f n s_ fc0=J1 n n (s_,((s_.length:Nat):Int),0,fc0,()):=(yac _).trans (by kernel_rfl)
theorem e1 (n m:Nat)(s_:List (yak))(t7:Int)(t8:Int)(b502000:Int):J1 n (m+1) (s_,t7,t8,b502000,())=bIf ((hide (decide (t8<t7)))) (gIf (0≤t8∧t8<((s_.length:Nat):Int)) (bnd (ycR.f n (List.getD s_ t8.toNat (Va.dflt yae)) b502000) λu1=>bIf (u1.1) (some (t8,u1.2.1,())) (J1 n m (s_,t7,(IntKind.i64.wrap (t8+(1:Int))),u1.2.1,())))) (J2 n (b502000,())):=(yac _).trans (by kernel_rfl)
theorem e2 (n:Nat)(b502000:Int):J2 n (b502000,())=some ((-1),b502000,()):=(yac _).trans (by kernel_rfl)
theorem ok (n:Nat):FnOk Tryz.prog 120 ia io (fRun (X n) n T Tryz.f120 ia io):=yaA mixed tabIs (yaj (yai (ycR.ok n)) (yas)) Tryz.func120 (by kernel_rfl) rfl
def en (n:Nat):Entry:=yaw 120 ia io (fRun (X n) n T Tryz.f120 ia io)
end yaL
namespace ycz
abbrev ia:List Ai:=[.dat yag,.dat (.int .u64)]
abbrev io:List (Nat×Oi):=[(4,.dat (.int .i64))]
abbrev R:Type:=DOut ia io
def X (n:Nat):Ctx:=⟨⟨tab,[yaL.en n],0,[]⟩,9,bnOf 0 ia⟩
def T:CT := .o
def f (n:Nat)(o:yad)(id:Int):Option R:=fRun (X n) n T Tryz.f77 ia io (o,id,())
theorem e0 (n:Nat)(o:yad)(id:Int):f n o id=bnd (yaL.f n o.2.1 id) λu1=>some (u1.1,()):=(yac _).trans (by kernel_rfl)
theorem ok (n:Nat):FnOk Tryz.prog 77 ia io (fRun (X n) n T Tryz.f77 ia io):=yaA mixed tabIs (yaj (yai (yaL.ok n)) (yas)) Tryz.func77 (by kernel_rfl) rfl
def en (n:Nat):Entry:=yaw 77 ia io (fRun (X n) n T Tryz.f77 ia io)
end ycz
namespace ydg
abbrev ia:List Ai:=[.dat yag,.dat (.int .u64)]
abbrev io:List (Nat×Oi):=[(4,.cel (.d yae)),(5,.dat (.int .i64))]
abbrev R:Type:=DOut ia io
def X (n:Nat):Ctx:=⟨⟨tab,[yck.en n,ycz.en n,yaD.en n],0,[]⟩,23,bnOf 0 ia⟩
def T:CT := .o
def f (n:Nat)(o:yad)(id:Int):Option R:=fRun (X n) n T Tryz.f37 ia io (o,id,())
theorem e0 (n:Nat)(o:yad)(id:Int):f n o id=bnd (yck.f n o) λu1=>bIf ((!u1.1)) (some ((0,(false,(0,(0,((List.replicate 32 0),(0,((0,(0,(false,()))),([],())))))))),2,())) (bnd (ycz.f n o id) λu2=>bIf ((hide (decide (u2.1<(0:Int))))) (some ((0,(false,(0,(0,((List.replicate 32 0),(0,((0,(0,(false,()))),([],())))))))),7,())) (gIf (0≤u2.1∧u2.1<((o.2.1.length:Nat):Int)) (bnd (yaD.f n (List.getD o.2.1 u2.1.toNat (Va.dflt yae))) λu3=>some (u3.1,0,())))):=(yac _).trans (by kernel_rfl)
theorem ok (n:Nat):FnOk Tryz.prog 37 ia io (fRun (X n) n T Tryz.f37 ia io):=yaA mixed tabIs (yaj (yai (yck.ok n)) (yaj (yai (ycz.ok n)) (yaj (yai (yaD.ok n)) (yas)))) Tryz.func37 (by kernel_rfl) rfl
def en (n:Nat):Entry:=yaw 37 ia io (fRun (X n) n T Tryz.f37 ia io)
end ydg
namespace ydG
abbrev ia:List Ai:=[.dat yah,.dat yax]
abbrev io:List (Nat×Oi):=[(4,.cel (.d yae)),(5,.dat (.int .i64))]
abbrev R:Type:=DOut ia io
def X (n:Nat):Ctx:=⟨⟨tab,[yct.en n,ydg.en n],0,[]⟩,27,bnOf 0 ia⟩
def T:CT := .o
def f (n:Nat)(s_:yaf)(spot:ybc):Option R:=fRun (X n) n T Tryz.f11 ia io (s_,spot,())
theorem e0 (n:Nat)(s_:yaf)(spot:ybc):f n s_ spot=bnd (yct.f n s_ spot.1 spot.2.1) λu1=>bIf ((hide (u1.2.1 != (0:Int)))) (some ((0,(false,(0,(0,((List.replicate 32 0),(0,((0,(0,(false,()))),([],())))))))),u1.2.1,())) (bnd (ydg.f n u1.1 spot.2.2.1) λu2=>some (u2.1,u2.2.1,())):=(yac _).trans (by kernel_rfl)
theorem ok (n:Nat):FnOk Tryz.prog 11 ia io (fRun (X n) n T Tryz.f11 ia io):=yaA mixed tabIs (yaj (yai (yct.ok n)) (yaj (yai (ydg.ok n)) (yas))) Tryz.func11 (by kernel_rfl) rfl
def en (n:Nat):Entry:=yaw 11 ia io (fRun (X n) n T Tryz.f11 ia io)
end ydG
namespace ya3
abbrev ia:List Ai:=[.dat yah]
abbrev io:List (Nat×Oi):=[(2,.val (.m 0 yax yae))]
abbrev R:Type:=DOut ia io
def X (n:Nat):Ctx:=⟨⟨tab,[yco.en n,yaD.en n],0,[]⟩,50,bnOf 0 ia⟩
abbrev g1:List Si:=[.val 3 (.m 200300 yax yae),.dat 16 (.slice yaa),.dat 17 (.int .i64),.dat 18 (.int .i64)]
abbrev g2:List Si:=[.val 3 (.m 200300 yax yae),.ref 5 5 yaa,.dat 16 (.slice yaa),.dat 17 (.int .i64),.dat 18 (.int .i64),.dat 23 (.slice yag),.dat 24 (.int .i64),.dat 25 (.int .i64),.box 5 (.d yaa)]
abbrev g3:List Si:=[.val 3 (.m 200300 yax yae),.ref 5 5 yaa,.ref 7 7 yag,.dat 16 (.slice yaa),.dat 17 (.int .i64),.dat 18 (.int .i64),.dat 23 (.slice yag),.dat 24 (.int .i64),.dat 25 (.int .i64),.dat 30 (.slice yae),.dat 31 (.int .i64),.dat 32 (.int .i64),.box 5 (.d yaa),.box 7 (.d yag)]
abbrev g4:List Si:=[.val 3 (.m 200300 yax yae),.ref 5 5 yaa,.dat 16 (.slice yaa),.dat 17 (.int .i64),.dat 18 (.int .i64),.dat 23 (.slice yag),.dat 24 (.int .i64),.dat 25 (.int .i64),.box 5 (.d yaa)]
abbrev g5:List Si:=[.val 3 (.m 200300 yax yae),.dat 16 (.slice yaa),.dat 17 (.int .i64),.dat 18 (.int .i64)]
abbrev g6:List Si:=[.val 3 (.m 200300 yax yae)]
def T:CT:=(.s .o (.s .o (.s .o (.s (.s .o (.b (.l g1 (.s .o (.s .o (.s (.b (.s .o (.s .o (.b (.l g2 (.s .o (.s .o (.s (.b (.s .o (.s .o (.b (.l g3 .o))))) (.r g4 .o))))))))) (.r g5 .o))))))) (.r g6 .o)))))
def J1 (n:Nat)(m:Nat):(List (ybc×yak))×(List (yab))×Int×Int×Unit→Option R:=jL (X n) n T (yau Tryz.f38) (endK ia io) g1 [1,1,1,0,1,0] [] m
def J2 (n m1:Nat)(m:Nat):(List (ybc×yak))×(List (yab))×Int×Int×(List (yad))×Int×Int×yab×Unit→Option R:=jL (X n) n T (yau Tryz.f38) (endK ia io) g2 [1,1,1,0,1,0,0,1,1,0,0,1,1,0] [m1] m
def J3 (n m1 m2:Nat)(m:Nat):(List (ybc×yak))×(List (yab))×Int×Int×(List (yad))×Int×Int×(List (yak))×Int×Int×yab×yad×Unit→Option R:=jL (X n) n T (yau Tryz.f38) (endK ia io) g3 [1,1,1,0,1,0,0,1,1,0,0,1,1,0,0,1,1,0,0,1,1,0] [m1,m2] m
def J4 (n m1 m2:Nat):(List (ybc×yak))×(List (yab))×Int×Int×(List (yad))×Int×Int×yab×Unit→Option R:=jR (X n) n T (yau Tryz.f38) (endK ia io) g4 [1,1,1,0,1,0,0,1,1,0,0,1,1,0,0,1,1,1] [m1,m2]
def J5 (n m1:Nat):(List (ybc×yak))×(List (yab))×Int×Int×Unit→Option R:=jR (X n) n T (yau Tryz.f38) (endK ia io) g5 [1,1,1,0,1,0,0,1,1,1] [m1]
def J6 (n:Nat):(List (ybc×yak))×Unit→Option R:=jR (X n) n T (yau Tryz.f38) (endK ia io) g6 [1,1,1,1] []
def f (n:Nat)(s_:yaf):Option R:=fRun (X n) n T Tryz.f38 ia io (s_,())
theorem e0 (n:Nat)(s_:yaf):f n s_=bnd (yco.f n s_) λu1=>bIf ((!u1.1)) (some ([],())) (J1 n n ([],s_.2.2.2.1,((s_.2.2.2.1.length:Nat):Int),0,())):=(yac _).trans (by kernel_rfl)
theorem e1 (n m:Nat)(out:List (ybc×yak))(t16:List (yab))(t17:Int)(t18:Int):J1 n (m+1) (out,t16,t17,t18,())=bIf ((hide (decide (t18<t17)))) (gIf (0≤t18∧t18<((t16.length:Nat):Int)) (J2 n m n (out,t16,t17,t18,(((((List.getD t16 t18.toNat (Va.dflt yaa)).2).2).2).2).1,((((((((List.getD t16 t18.toNat (Va.dflt yaa)).2).2).2).2).1).length:Nat):Int),0,(List.getD t16 t18.toNat (Va.dflt yaa)),()))) (J6 n (out,())):=(yac _).trans (by kernel_rfl)
theorem e2 (n m1 m:Nat)(out:List (ybc×yak))(t16:List (yab))(t17:Int)(t18:Int)(t23:List (yad))(t24:Int)(t25:Int)(b:yab):J2 n m1 (m+1) (out,t16,t17,t18,t23,t24,t25,b,())=bIf ((hide (decide (t25<t24)))) (gIf (0≤t25∧t25<((t23.length:Nat):Int)) (J3 n m1 m n (out,t16,t17,t18,t23,t24,t25,((List.getD t23 t25.toNat (Va.dflt yag)).2).1,(((((List.getD t23 t25.toNat (Va.dflt yag)).2).1).length:Nat):Int),0,b,(List.getD t23 t25.toNat (Va.dflt yag)),()))) (J5 n m1 (out,t16,t17,t18,())):=(yac _).trans (by kernel_rfl)
theorem e3 (n m1 m2 m:Nat)(out:List (ybc×yak))(t16:List (yab))(t17:Int)(t18:Int)(t23:List (yad))(t24:Int)(t25:Int)(t30:List (yak))(t31:Int)(t32:Int)(b:yab)(o:yad):J3 n m1 m2 (m+1) (out,t16,t17,t18,t23,t24,t25,t30,t31,t32,b,o,())=bIf ((hide (decide (t32<t31)))) (gIf (0≤t32∧t32<((t30.length:Nat):Int)) (bnd (yaD.f n (List.getD t30 t32.toNat (Va.dflt yae))) λu1=>J3 n m1 m2 m ((mSet yax yae out (b.1,(o.1,((List.getD t30 t32.toNat (Va.dflt yae)).1,()))) u1.1),t16,t17,t18,t23,t24,t25,t30,t31,(IntKind.i64.wrap (t32+(1:Int))),b,o,()))) (J4 n m1 m2 (out,t16,t17,t18,t23,t24,t25,b,())):=(yac _).trans (by kernel_rfl)
theorem e4 (n m1 m2:Nat)(out:List (ybc×yak))(t16:List (yab))(t17:Int)(t18:Int)(t23:List (yad))(t24:Int)(t25:Int)(b:yab):J4 n m1 m2 (out,t16,t17,t18,t23,t24,t25,b,())=J2 n m1 m2 (out,t16,t17,t18,t23,t24,(IntKind.i64.wrap (t25+(1:Int))),b,()):=(yac _).trans (by kernel_rfl)
theorem e5 (n m1:Nat)(out:List (ybc×yak))(t16:List (yab))(t17:Int)(t18:Int):J5 n m1 (out,t16,t17,t18,())=J1 n m1 (out,t16,t17,(IntKind.i64.wrap (t18+(1:Int))),()):=(yac _).trans (by kernel_rfl)
theorem e6 (n:Nat)(out:List (ybc×yak)):J6 n (out,())=some (out,()):=(yac _).trans (by kernel_rfl)
theorem ok (n:Nat):FnOk Tryz.prog 38 ia io (fRun (X n) n T Tryz.f38 ia io):=yaA mixed tabIs (yaj (yai (yco.ok n)) (yaj (yai (yaD.ok n)) (yas))) Tryz.func38 (by kernel_rfl) rfl
def en (n:Nat):Entry:=yaw 38 ia io (fRun (X n) n T Tryz.f38 ia io)
end ya3
end
end Go.Proofs.YtemhlkdingkjnaaGreatDoor
namespace Go.Proofs.YtemhlkdingkjnaaGreatDoor
open Go Go.Va Go.Proofs
theorem findSome_key {α β:Type} {key:α→ByteArray} {nm:ByteArray} {g:α→Option β} (hg:∀ x,eqS (key x) nm=false→g x=none):∀ {l:List α},l.Pairwise (λa b=>ltS (key a) (key b)=true)→l.findSome? g=(lookK key l nm).bind g
  | [],_=>rfl
  | x :: l, h=>by
    cases h with
    | cons h1 h2=>
      unfold lookK
      rw[List.findSome?_cons,List.find?_cons]
      cases hx:eqS (key x) nm with
      | true=>
        have hrest:l.findSome? g=none:=by
          rw[List.findSome?_eq_none_iff]
          intro y hy
          refine hg y ?_
          cases hyq:eqS (key y) nm with
          | false=>rfl
          | true=>
            have:=h1 y hy
            rw[eqOf hx,eqOf hyq,ltS_irr]at this
            exact nomatch this
        cases hgx:g x with
        | none=>show l.findSome? g=(some x).bind g;rw[hrest];exact hgx.symm
        | some y=>exact hgx.symm
      | false=>
        rw[hg x hx]
        have:=findSome_key hg (nm:=nm) h2
        exact this
def rowP (nm key:ByteArray)(id:Int)(r:Row):Bool:=eqS r.1 nm&&(eqS r.2.1 key&&(r.2.2.1.1==id))
def verL (bs:List yab)(nm key:ByteArray)(id:Int):Option Row:=
  (lookK nameB bs nm).bind λb=>(lookK (λo:yad=>o.1) b.2.2.2.2.1 key).bind λo=>(o.2.1.find? λv=>v.1==id).map (rowV b o)
theorem rows_find {bs:List yab} (hp:bs.Pairwise (λa b=>ltS (nameB a) (nameB b)=true)) (ho:∀ b∈bs,b.2.2.2.2.1.Pairwise (λa b=>ltS a.1 b.1=true)) (nm key:ByteArray) (id:Int) :
    (bs.flatMap rowsV).find? (rowP nm key id)=verL bs nm key id:=by
  rw[List.find?_flatMap,findSome_key (key:=nameB) (nm:=nm) (λb hb => ?_) hp]
  · unfold verL
    cases hL:lookK nameB bs nm with
    | none=>rfl
    | some b=>
      have hbm:b∈bs:=(look_key hL).1
      have hbn:eqS b.1 nm=true:=(look_key hL).2.1
      show (rowsV b).find? (rowP nm key id)=(lookK (λo:yad=>o.1) b.2.2.2.2.1 key).bind _
      unfold rowsV
      rw[List.find?_flatMap,findSome_key (key:=λo:yad=>o.1) (nm:=key) (λo ho => ?_) (ho b hbm)]
      · cases hO:lookK (λo:yad=>o.1) b.2.2.2.2.1 key with
        | none=>rfl
        | some o=>
          have hon:eqS o.1 key=true:=(look_key hO).2.1
          show (o.2.1.map (rowV b o)).find? (rowP nm key id)=(o.2.1.find? λv=>v.1==id).map (rowV b o)
          rw[List.find?_map]
          congr 2
          funext v
          show (eqS b.1 nm&&(eqS o.1 key&&(v.1==id)))=_
          rw[hbn,hon];rfl
      · rw[List.find?_eq_none]
        intro r hr
        obtain⟨v,_,e⟩:=List.mem_map.1 hr
        rw[← e]
        show ¬ (eqS b.1 nm&&(eqS o.1 key&&(v.1==id)))=true
        rw[ho];simp
  · rw[List.find?_eq_none]
    intro r hr
    unfold rowsV at hr
    obtain⟨o,_,hr⟩:=List.mem_flatMap.1 hr
    obtain⟨v,_,e⟩:=List.mem_map.1 hr
    rw[← e]
    show ¬ (eqS b.1 nm&&(eqS o.1 key&&(v.1==id)))=true
    have hb:eqS b.1 nm=false:=hb
    rw[hb];simp
theorem idx_first {α:Type} {l:List α} (d:α) (p:α→Bool) (J:Nat→Int→Option (Int×Unit))
    (hs:∀ m (k:Nat),k<l.length→J (m+1) (k:Int)=bIf (p (l.getD k d)) (some ((k:Int),())) (J m ((k+1:Nat):Int))) (he:∀ m,J (m+1) ((l.length:Nat):Int)=some (-1,())) :
    ∀ (m k:Nat),k≤l.length→l.length-k<m→(J m (k:Int)=some (-1,())∧(l.drop k).find? p=none)∨∃ j:Nat,j<l.length∧J m (k:Int)=some ((j:Int),())∧(l.drop k).find? p=some (l.getD j d)∧p (l.getD j d)=true
  | 0,k,_,h=>by omega
  | m + 1,k,hk,h=>by
    by_cases hlt:k<l.length
    · rw[hs m k hlt,ycA d hlt,List.find?_cons]
      cases hp:p (l.getD k d) with
      | true=>exact .inr ⟨k,hlt,by rw[yap],rfl,hp⟩
      | false=>
        rw[yam]
        exact idx_first d p J hs he m (k+1) (by omega) (by omega)
    · have:k=l.length:=by omega
      subst this
      rw[he,List.drop_length]
      exact .inl ⟨rfl,rfl⟩
section
variable {n:Nat}
theorem flat_Bucket {f:Flat}(hl:f.2.2.2.1.length<536870912)(hn:f.2.2.2.1.length<n)(nm:ByteArray):(ya6.f n f nm=some (-1,())∧lookK nameB f.2.2.2.1 nm=none) ∨
    ∃ j:Nat,j<f.2.2.2.1.length∧ya6.f n f nm=some ((j:Int),())∧lookK nameB f.2.2.2.1 nm=some (f.2.2.2.1.getD j (Va.dflt yaa))∧eqS (f.2.2.2.1.getD j (Va.dflt yaa)).1 nm=true:=by
  have:=idx_first (l:=f.2.2.2.1) (Va.dflt yaa) (λb=>eqS b.1 nm) (λm k=>ya6.J1 n m (nm,k,f,()))
    (λm k hk=>by
      rw[ya6.e1]
      simp only[yaS]
      rw[decide_eq_true (show (k:Int)<((f.2.2.2.1.length:Nat):Int) by omega),yap,yaq ⟨by omega,by omega⟩,Int.toNat_natCast,ya7 k (by omega)])
    (λm=>by
      rw[ya6.e1]
      simp only[yaS]
      rw[decide_eq_false (by omega),yam,ya6.e2]) n 0 (by omega) (by omega)
  rw[List.drop_zero]at this
  rw[ya6.e0]
  exact this
theorem flat_Find {f:Flat} (hl:f.2.2.2.2.1.length<536870912) (hn:f.2.2.2.2.1.length<n) (nm key:ByteArray) (id:Int):(yaU.f n f nm key id=some (-1,())∧f.2.2.2.2.1.find? (rowP nm key id)=none) ∨
    ∃ j:Nat,j<f.2.2.2.2.1.length∧yaU.f n f nm key id=some ((j:Int),())∧f.2.2.2.2.1.find? (rowP nm key id)=some (f.2.2.2.2.1.getD j (Va.dflt yaB)):=by
  have:=idx_first (l:=f.2.2.2.2.1) (Va.dflt yaB) (rowP nm key id) (λm k=>yaU.J1 n m (nm,key,id,k,f,()))
    (λm k hk=>by
      rw[yaU.e1]
      simp only[yaS]
      rw[decide_eq_true (show (k:Int)<((f.2.2.2.2.1.length:Nat):Int) by omega),yap,yaq ⟨by omega,by omega⟩,Int.toNat_natCast,yaU.e2,ya7 k (by omega)]
      unfold rowP
      generalize f.2.2.2.2.1.getD k (Va.dflt yaB)=r
      cases eqS r.1 nm
      · rfl
      · cases eqS r.2.1 key
        · rfl
        · cases (r.2.2.1.1==id)<;>rfl)
    (λm=>by
      rw[yaU.e1]
      simp only[yaS]
      rw[decide_eq_false (by omega),yam,yaU.e3]) n 0 (by omega) (by omega)
  rw[List.drop_zero]at this
  rw[yaU.e0]
  rcases this with h | ⟨j,h1,h2,h3,_⟩
  · exact .inl h
  · exact .inr ⟨j,h1,h2,h3⟩
theorem by_Key (a b:yad):ybX.f n a b=some (cmp3 a.1 b.1,()):=by
  rw[ybX.e0,cmp_is,bnd_some]
abbrev keyO (o:yad):ByteArray:=o.1
abbrev placeO (l:List yad)(k:ByteArray):Nat:=placeG keyO (Va.dflt yag) l k
abbrev thereO (l:List yad)(k:ByteArray):Bool:=thereG keyO (Va.dflt yag) l k
theorem findO_J1 (l:List yad) (hl:l.length<536870912) (t:yad):∀ (m i j:Nat),i≤j→j≤l.length→j-i<m →
    yaG.J1 n m (l,((l.length:Nat):Int),(i:Int),(j:Int),t,())=yaG.J2 n (l,((l.length:Nat):Int),(bsF (λk=>ltS (l.getD k (Va.dflt yag)).1 t.1) m i j:Int),t,())
  | 0,i,j,_,_,h=>by omega
  | m + 1,i,j,hij,hj,h=>by
    rw[yaG.e1]
    simp only[yaS]
    unfold bsF
    by_cases hlt:i<j
    · rw[decide_eq_true (show (i:Int)<(j:Int) by omega),yap,gNo_neg (by decide),mid_is (by omega),yaq ⟨by omega,by omega⟩,Int.toNat_natCast,by_Key,bnd_some]
      dsimp only
      rw[cmp3_neg,if_pos hlt]
      cases ltS (l.getD ((i+j)/2) (Va.dflt yag)).1 t.1 with
      | true=>
        rw[yap,if_pos rfl,ya7 ((i+j)/2) (by omega)]
        exact findO_J1 l hl t m _ j (by omega) hj (by omega)
      | false=>
        rw[yam,if_neg (by decide)]
        exact findO_J1 l hl t m i _ (by omega) (by omega) (by omega)
    · rw[decide_eq_false (show ¬ (i:Int)<(j:Int) by omega),yam,if_neg hlt]
theorem find_Object {l:List yad}(hl:l.length<536870912)(hn:l.length<n)(t:yad):yb6.f n l t=some ((placeO l t.1:Int),thereO l t.1,()):=by
  have hle:=(bsF_le (λk=>ltS (l.getD k (Va.dflt yag)).1 t.1) (l.length+1) 0 l.length (Nat.zero_le _)).2
  have h1:=findO_J1 (n:=n) l hl t n 0 l.length (Nat.zero_le _) (Nat.le_refl _) (by omega)
  rw[bsF_more _ n (l.length+1) 0 l.length (Nat.zero_le _) (by omega) (by omega)]at h1
  rw[yb6.e0,yaG.e0]
  change bnd (yaG.J1 n n (l,((l.length:Nat):Int),((0:Nat):Int),((l.length:Nat):Int),t,())) _=_
  rw[h1,yaG.e2]
  simp only[yaS]
  change bnd (bIf (decide ((placeO l t.1:Int)<((l.length:Nat):Int))) (gIf (0≤(placeO l t.1:Int)∧(placeO l t.1:Int)<((l.length:Nat):Int)) (bnd (ybX.f n (l.getD ((placeO l t.1:Int)).toNat (Va.dflt yag)) t) λu1=>some ((placeO l t.1:Int),(u1.1==0),()))) (some ((placeO l t.1:Int),false,()))) _=_
  unfold thereO thereG
  by_cases hk:placeO l t.1<l.length
  · rw[decide_eq_true (show (placeO l t.1:Int)<((l.length:Nat):Int) by omega),yap,yaq ⟨by omega,by omega⟩,Int.toNat_natCast,by_Key,bnd_some,bnd_some,decide_eq_true hk,Bool.true_and]
    dsimp only
    rw[cmp3_zero]
  · rw[decide_eq_false (show ¬ (placeO l t.1:Int)<((l.length:Nat):Int) by omega),yam,bnd_some,decide_eq_false hk,Bool.false_and]
abbrev nilO:yad:=((⟨#[]⟩:ByteArray),([],()))
abbrev nilV:yak:=(0,(false,(0,(0,((List.replicate 32 0),(0,((0,(0,(false,()))),([],()))))))))
def bkOf (s:yaf)(nm:ByteArray):Option yab:=if ydE s=true then lookK nameB s.2.2.2.1 nm else none
def obOf (s:yaf)(nm key:ByteArray):Option yad:=(bkOf s nm).bind λb=>lookK keyO b.2.2.2.2.1 key
def veOf (s:yaf)(nm key:ByteArray)(id:Int):Option yak:=(obOf s nm key).bind λo=>o.2.1.find? λv=>v.1==id
theorem st_parts {s:yaf}(h:ydE s=true):s.2.2.2.1.Pairwise (λa b=>ltS (nameB a) (nameB b)=true)∧∀ b∈s.2.2.2.1,b.2.2.2.2.1.Pairwise (λa b=>ltS a.1 b.1=true)∧∀ o∈b.2.2.2.2.1,soundB o=true:=by
  unfold ydE at h
  simp only[Bool.and_eq_true]at h
  refine⟨bks_up h.2.2.1,λb hb => ?_⟩
  have hb:=List.all_eq_true.1 h.2.2.2.1 b hb
  unfold okB okT at hb
  simp only[Bool.and_eq_true]at hb
  refine⟨objs_up hb.1.2.2.2.2.2.1,λo ho => ?_⟩
  have:=List.all_eq_true.1 hb.2.1 o ho
  unfold okO at this
  rw[Bool.and_eq_true]at this
  exact this.1
theorem bucket_is (h3:300≤n)(hn:n≤536870912){s:yaf}(hs:StS n s)(nm:ByteArray):ybA.f n s nm=some (orNo nilB (bkOf s nm)):=by
  rw[meta_Bucket h3 hn hs]
  unfold bkOf
  cases hst:ydE s with
  | false=>rfl
  | true=>
    rw[Bool.true_and,if_pos rfl,look_there (Va.dflt yaa) (st_parts hst).1]
    show some (if thereG nameB (Va.dflt yaa) s.2.2.2.1 nm=true then (s.2.2.2.1.getD (placeG nameB (Va.dflt yaa) s.2.2.2.1 nm) (Va.dflt yaa),0,()) else (nilB,7,()))=_
    cases thereG nameB (Va.dflt yaa) s.2.2.2.1 nm<;>rfl
theorem bk_mem {s:yaf}{nm:ByteArray}{b:yab}(h:bkOf s nm=some b):ydE s=true∧b∈s.2.2.2.1∧b.1=nm:=by
  unfold bkOf at h
  split at h
  · next hst=>exact⟨hst,(look_key h).1,(look_key h).2.2⟩
  · exact nomatch h
theorem object_is (h3:300≤n) (hn:n≤536870912) {s:yaf} (hs:StS n s) (nm key:ByteArray):yct.f n s nm key=some (orNo nilO (obOf s nm key)):=by
  rw[yct.e0,bucket_is h3 hn hs,bnd_some]
  simp only[yaS]
  unfold obOf
  cases hb:bkOf s nm with
  | none=>rfl
  | some b=>
    obtain⟨hst,hbm,_⟩:=bk_mem hb
    have hB:=hs.bk b hbm
    have hol:=hB.ol
    change bIf false _ (bnd (yb6.f n b.2.2.2.2.1 (key,([],()))) _)=_
    rw[yam,find_Object (by omega) (by omega),bnd_some]
    show bIf (!thereO b.2.2.2.2.1 key) (some (nilO,7,())) (gIf (0≤(placeO b.2.2.2.2.1 key:Int)∧(placeO b.2.2.2.2.1 key:Int)<((b.2.2.2.2.1.length:Nat):Int)) (some (b.2.2.2.2.1.getD (0+(placeO b.2.2.2.2.1 key:Int).toNat) (Va.dflt yag),0,())))=some (orNo nilO (lookK keyO b.2.2.2.2.1 key))
    rw[look_there (Va.dflt yag) ((st_parts hst).2 b hbm).1]
    cases ht:thereG keyO (Va.dflt yag) b.2.2.2.2.1 key with
    | false=>
      have ht:thereO b.2.2.2.2.1 key=false:=ht
      rw[ht,Bool.not_false,yap];rfl
    | true=>
      have hk:placeO b.2.2.2.2.1 key<b.2.2.2.2.1.length:=by
        unfold thereG at ht
        rw[Bool.and_eq_true]at ht
        exact of_decide_eq_true ht.1
      have ht:thereO b.2.2.2.2.1 key=true:=ht
      rw[ht,Bool.not_true,yam,yaq ⟨by omega,by omega⟩,Int.toNat_natCast,Nat.zero_add,if_pos rfl]
      rfl
theorem place_is (o:yad)(hl:o.2.1.length<536870912)(hn:o.2.1.length<n)(id:Int):(ycz.f n o id=some (-1,())∧(o.2.1.find? λv=>v.1==id)=none)∨∃ j:Nat,j<o.2.1.length∧ycz.f n o id=some ((j:Int),())∧(o.2.1.find? λv=>v.1==id)=some (o.2.1.getD j (Va.dflt yae)):=by
  have:=idx_first (l:=o.2.1) (Va.dflt yae) (λv=>v.1==id) (λm k=>(yaL.J1 n m (o.2.1,((o.2.1.length:Nat):Int),k,id,())).map λu=>(u.1,()))
    (λm k hk=>by
      rw[yaL.e1]
      simp only[yaS]
      rw[decide_eq_true (show (k:Int)<((o.2.1.length:Nat):Int) by omega),yap,yaq ⟨by omega,by omega⟩,Int.toNat_natCast,ya7 k (by omega),ycR.e0,bnd_some]
      simp only[yaS]
      cases ((o.2.1.getD k (Va.dflt yae)).1==id)<;>rfl)
    (λm=>by
      rw[yaL.e1]
      simp only[yaS]
      rw[decide_eq_false (by omega),yam,yaL.e2];rfl) n 0 (by omega) (by omega)
  rw[List.drop_zero]at this
  rw[ycz.e0,yaL.e0]
  change ((yaL.J1 n n (o.2.1,((o.2.1.length:Nat):Int),((0:Nat):Int),id,())).map (λu=>(u.1,()))=some (-1,())∧_)∨_ at this
  change (bnd (yaL.J1 n n (o.2.1,((o.2.1.length:Nat):Int),((0:Nat):Int),id,())) _=_∧_)∨_
  cases hJ:yaL.J1 n n (o.2.1,((o.2.1.length:Nat):Int),((0:Nat):Int),id,()) with
  | none=>
    rw[hJ]at this
    rcases this with h | ⟨j,h1,h2,_⟩
    · exact nomatch h.1
    · exact nomatch h2
  | some u=>
    rw[hJ]at this
    rcases this with ⟨h,h'⟩ | ⟨j,h1,h2,h3,_⟩
    · left
      refine⟨?_,h'⟩
      rw[bnd_some]
      exact h
    · right
      refine⟨j,h1,?_,h3⟩
      rw[bnd_some]
      exact h2
theorem find_is (h3:300≤n) (hn:n≤536870912) {s:yaf} (hs:StS n s) (t:ybc):ydG.f n s t=some (orNo nilV (veOf s t.1 t.2.1 t.2.2.1)):=by
  rw[ydG.e0,object_is h3 hn hs,bnd_some]
  simp only[yaS]
  unfold veOf
  cases ho:obOf s t.1 t.2.1 with
  | none=>rfl
  | some o=>
    unfold obOf at ho
    cases hb:bkOf s t.1 with
    | none=>rw[hb]at ho;exact nomatch ho
    | some b=>
      rw[hb]at ho
      have ho:lookK keyO b.2.2.2.2.1 t.2.1=some o:=ho
      have hom:o∈b.2.2.2.2.1:=(look_key ho).1
      obtain⟨hst,hbm,_⟩:=bk_mem hb
      have hob:=(hs.bk b hbm).ob o hom
      have hol:=hob.list.len
      have hso:=((st_parts hst).2 b hbm).2 o hom
      change bIf false _ (bnd (ydg.f n o t.2.2.1) _)=_
      rw[yam,ydg.e0,object_Sound hn hob,bnd_some,hso]
      dsimp only
      rw[Bool.not_true,yam]
      show bnd (bnd (ycz.f n o t.2.2.1) _) _=some (orNo nilV ((o.2.1.find? λv=>v.1==t.2.2.1)))
      rcases place_is (n:=n) o (by omega) hol t.2.2.1 with ⟨h1,h2⟩ | ⟨j,h1,h2,h3'⟩
      · rw[h1,bnd_some,h2]
        change bnd (bIf (hide (decide ((-1:Int)<0))) (some (nilV,7,())) (gIf _ (bnd _ _))) (λu2=>some (u2.1,u2.2.1,()))=_
        rw[yaS,decide_eq_true (by omega),yap,bnd_some]
        rfl
      · rw[h2,bnd_some,h3']
        have hjl:(0:Int)≤(j:Int)∧(j:Int)<((o.2.1.length:Nat):Int):=by omega
        change bnd (bIf (hide (decide ((j:Int)<0))) (some (nilV,7,())) (gIf (0≤(j:Int)∧(j:Int)<((o.2.1.length:Nat):Int)) (bnd (yaD.f n (o.2.1.getD (j:Int).toNat (Va.dflt yae))) λu3=>some (u3.1,0,())))) (λu2=>some (u2.1,u2.2.1,()))=_
        have hv:=ybr (d:=Va.dflt yae) h1
        rw[yaS,decide_eq_false (by omega),yam,yaq hjl,Int.toNat_natCast]
        generalize o.2.1.getD j (Va.dflt yae)=v at hv
        have htg:v.2.2.2.2.2.2.2.1.length≤536870912:=by have:=(hob.list.all v hv).tags.1;unfold tags at this;omega
        rw[clone_Version htg,bnd_some,bnd_some]
        rfl
theorem refO_J2 {s:yaf}(nm key:ByteArray)(b6:yad)(i m1:Nat)(hi:i<s.2.2.2.1.length)(hn1:s.2.2.2.1.length<536870912)(hl:(s.2.2.2.1.getD i (Va.dflt yaa)).2.2.2.2.1.length<536870912)(hnm:eqS (s.2.2.2.1.getD i (Va.dflt yaa)).1 nm=true) :
    ∀ (m k:Nat),k≤(s.2.2.2.1.getD i (Va.dflt yaa)).2.2.2.2.1.length→(s.2.2.2.1.getD i (Va.dflt yaa)).2.2.2.2.1.length-k<m →
    ybg.J2 n m1 m (nm,key,(i:Int),(k:Int),s,b6,())=(match (((s.2.2.2.1.getD i (Va.dflt yaa)).2.2.2.2.1.drop k).find? λo=>eqS (keyO o) key) with | some o=>some (o,true,()) | none=>ybg.J4 n m1 (nm,key,(i:Int),s,b6,()))
  | 0,k,_,h=>by omega
  | m + 1,k,hk,h=>by
    have hgi:(0≤(i:Int)∧(i:Int)<((s.2.2.2.1.length:Nat):Int)):=by omega
    rw[ybg.e2,yaq hgi]
    simp only[yaS,Int.toNat_natCast]
    rw[hnm,yap,yaq hgi]
    by_cases hlt:k<(s.2.2.2.1.getD i (Va.dflt yaa)).2.2.2.2.1.length
    · rw[decide_eq_true (by omega),yap,ybg.e3,yaq hgi]
      simp only[yaS,Int.toNat_natCast]
      rw[yaq ⟨by omega,by omega⟩,ycA (Va.dflt yag) hlt,List.find?_cons,ya7 k (by omega),yaq hgi,yaq ⟨by omega,by omega⟩]
      have ih:=refO_J2 nm key b6 i m1 hi hn1 hl hnm m (k+1) (by omega) (by omega)
      cases eqS ((s.2.2.2.1.getD i (Va.dflt yaa)).2.2.2.2.1.getD k (Va.dflt yag)).1 key with
      | true=>rw[yap]
      | false=>rw[yam];exact ih
    · rw[decide_eq_false (by omega),yam,List.drop_eq_nil_of_le (by omega)]
      rfl
end
end Go.Proofs.YtemhlkdingkjnaaGreatDoor
namespace Go.Proofs.YtemhlkdingkjnaaGreatDoor
open Go Go.Va Go.Proofs
section
variable {n:Nat}
def refG (nm key:ByteArray)(b:yab):Option yad:=if eqS (nameB b) nm=true then lookK keyO b.2.2.2.2.1 key else none
theorem refO_J1 {s:yaf} (nm key:ByteArray) (b6:yad) (hl:s.2.2.2.1.length<536870912) (hB:∀ b∈s.2.2.2.1,b.2.2.2.2.1.length<n∧b.2.2.2.2.1.length<536870912) (hn:0<n):∀ (m i:Nat),i≤s.2.2.2.1.length→s.2.2.2.1.length-i<m →
    ybg.J1 n m (nm,key,(i:Int),s,b6,())=some (orBad nilO ((s.2.2.2.1.drop i).findSome? (refG nm key)))
  | 0,i,_,h=>by omega
  | m + 1,i,hi,h=>by
    rw[ybg.e1]
    simp only[yaS]
    by_cases hlt:i<s.2.2.2.1.length
    · have hgi:(0≤(i:Int)∧(i:Int)<((s.2.2.2.1.length:Nat):Int)):=by omega
      have hb:=hB _ (ybr (d:=Va.dflt yaa) hlt)
      have ih:=refO_J1 nm key b6 hl hB hn m (i+1) (by omega) (by omega)
      have e4:ybg.J4 n m (nm,key,(i:Int),s,b6,())=some (orBad nilO ((s.2.2.2.1.drop (i+1)).findSome? (refG nm key))):=by
        rw[ybg.e4,ya7 i (by omega)]
        exact ih
      rw[decide_eq_true hgi.2,yap,ycA (Va.dflt yaa) hlt,List.findSome?_cons]
      unfold refG
      cases hnm:eqS (nameB (s.2.2.2.1.getD i (Va.dflt yaa))) nm with
      | true=>
        rw[if_pos rfl]
        have h2:=refO_J2 (n:=n) nm key b6 i m hlt hl hb.2 hnm n 0 (by omega) (by omega)
        rw[show ((0:Nat):Int)=0 from rfl,List.drop_zero]at h2
        refine h2.trans ?_
        unfold lookK
        cases (s.2.2.2.1.getD i (Va.dflt yaa)).2.2.2.2.1.find? λx=>eqS (keyO x) key with
        | some o=>rfl
        | none=>exact e4
      | false=>
        rw[if_neg (by decide)]
        refine Eq.trans ?_ e4
        obtain⟨n',rfl⟩:∃ n',n=n'+1:=⟨n-1,by omega⟩
        rw[ybg.e2,yaq hgi]
        simp only[yaS,Int.toNat_natCast]
        have hnm:eqS (s.2.2.2.1.getD i (Va.dflt yaa)).1 nm=false:=hnm
        rw[hnm,yam]
    · rw[decide_eq_false (by omega),yam,List.drop_eq_nil_of_le (by omega),ybg.e5]
      rfl
theorem ref15_Object (hn:n≤536870912){s:yaf}(hs:StS n s)(hst:ydE s=true)(nm key:ByteArray):ybg.f n s nm key=some (orBad nilO (obOf s nm key)):=by
  have hl:=hs.len
  have h1:=refO_J1 (n:=n) (s:=s) nm key ((⟨#[]⟩:ByteArray),([],())) (by omega) (λb hb=>by have:=(hs.bk b hb).ol;omega) (by omega) n 0 (by omega) (by omega)
  rw[List.drop_zero,findSome_key (key:=nameB) (nm:=nm) (λb hb=>by unfold refG;rw[hb,if_neg (by decide)]) (st_parts hst).1]at h1
  rw[ybg.e0]
  refine h1.trans ?_
  unfold obOf bkOf
  rw[if_pos hst]
  cases hL:lookK nameB s.2.2.2.1 nm with
  | none=>rfl
  | some b=>
    have hbn:eqS (nameB b) nm=true:=(look_key hL).2.1
    show some (orBad nilO (refG nm key b))=some (orBad nilO (lookK keyO b.2.2.2.2.1 key))
    unfold refG
    rw[if_pos hbn]
def spotOf (b:yab)(o:yad)(v:Ver):Spot:=(b.1,(o.1,(v.1,())))
def spotsO (b:yab)(o:yad):List Spot:=o.2.1.map (spotOf b o)
def spotsB (b:yab):List Spot:=b.2.2.2.2.1.flatMap (spotsO b)
def ydy (s:yaf):List Spot:=if ydE s=true then s.2.2.2.1.flatMap spotsB else []
theorem vers_up {l:List Ver} (h:risB l=true):l.Pairwise λa b=>a.1<b.1:=by
  have key:∀ (l:List Ver) (o:Option Ver),chk verB behB o l=true→(∀ x,o=some x→∀ y∈l,x.1<y.1)∧l.Pairwise λa b=>a.1<b.1:=by
    intro l
    induction l with
    | nil=>intro o _;exact⟨λ_ _ y hy=>(nomatch hy),.nil⟩
    | cons x l ih=>
      intro o h
      have h1:chk verB behB (some x) l=true∧(∀ z,o=some z→z.1<x.1):=by
        cases o with
        | none=>simp only[chk,Bool.and_eq_true]at h;exact⟨h.2,λz hz=>nomatch hz⟩
        | some z=>
          simp only[chk,Bool.and_eq_true]at h
          refine⟨h.2.2,λz' hz => ?_⟩
          injection hz with hz
          subst hz
          have:=h.2.1
          unfold behB at this
          simp only[Bool.and_eq_true,decide_eq_true_eq]at this
          exact this.1
      obtain⟨k1,k2⟩:=ih (some x) h1.1
      refine⟨λz hz y hy => ?_,.cons (λy hy=>k1 x rfl y hy) k2⟩
      rcases List.mem_cons.1 hy with rfl | hy
      · exact h1.2 z hz
      · exact Int.lt_trans (h1.2 z hz) (k1 x rfl y hy)
  exact (key l none h).2
theorem spots_up {s:yaf}:(ydy s).Pairwise λx y=>ltSp x y=true:=by
  unfold ydy
  split
  case isFalse=>exact .nil
  rename_i hst
  obtain⟨h1,h2⟩:=st_parts hst
  rw[List.pairwise_flatMap]
  refine⟨λb hb => ?_,h1.imp fun {a b} hab x hx y hy => ?_⟩
  · obtain⟨h3,h4⟩:=h2 b hb
    unfold spotsB
    rw[List.pairwise_flatMap]
    refine⟨λo ho => ?_,h3.imp fun {o p} hop x hx y hy => ?_⟩
    · unfold spotsO
      rw[List.pairwise_map]
      have hso:=h4 o ho
      unfold soundB at hso
      simp only[Bool.and_eq_true]at hso
      refine (vers_up hso.2.2).imp fun {v u} hvu => ?_
      show (ltS b.1 b.1||(eqS b.1 b.1&&(ltS o.1 o.1||(eqS o.1 o.1&&decide (v.1<u.1)))))=true
      rw[ycV,ycV,decide_eq_true hvu];simp
    · obtain⟨v,_,rfl⟩:=List.mem_map.1 hx
      obtain⟨u,_,rfl⟩:=List.mem_map.1 hy
      show (ltS b.1 b.1||(eqS b.1 b.1&&(ltS o.1 p.1||_)))=true
      rw[ycV,hop];simp
  · obtain⟨o,_,hx⟩:=List.mem_flatMap.1 hx
    obtain⟨p,_,hy⟩:=List.mem_flatMap.1 hy
    obtain⟨v,_,rfl⟩:=List.mem_map.1 hx
    obtain⟨u,_,rfl⟩:=List.mem_map.1 hy
    show (ltS a.1 b.1||_)=true
    have hab:ltS a.1 b.1=true:=hab
    rw[hab];rfl
theorem ltSp_ne {x y:Spot}(h:ltSp x y=true):eqD yax y x=false:=by
  have e:eqD yax y x=(((y.1:ByteArray)==x.1)&&(((y.2.1:ByteArray)==x.2.1)&&(decide (y.2.2.1=x.2.2.1)&&true))):=rfl
  rw[e,← eqS_eq,← eqS_eq]
  unfold ltSp at h
  cases h1:eqS y.1 x.1 with
  | false=>rfl
  | true=>
    rw[eqOf h1,ltS_irr,Bool.false_or,Bool.and_eq_true]at h
    cases h2:eqS y.2.1 x.2.1 with
    | false=>rfl
    | true=>
      have h:=h.2
      rw[eqOf h2,ltS_irr,Bool.false_or,Bool.and_eq_true]at h
      have h3:=of_decide_eq_true h.2
      rw[decide_eq_false (by omega)];rfl
theorem mSet_new (k:Spot)(v:yak):∀ l:SMap,(∀ p∈l,ltSp p.1 k=true)→mSet yax yae l k v=l++[(k,v)]
  | [],_=>rfl
  | p::l,h=>by
    unfold mSet
    have h1:eqD yax k p.1=false:=ltSp_ne (h p (by simp))
    rw[h1,if_neg (by decide),mSet_new k v l λq hq=>h q (by simp[hq])];rfl
def rowSV (b:yab)(o:yad)(v:Ver):Spot×yak:=(spotOf b o v,v)
def idxO (b:yab)(o:yad):SMap:=o.2.1.map (rowSV b o)
def idxB (b:yab):SMap:=b.2.2.2.2.1.flatMap (idxO b)
def idxS (s:yaf):SMap:=if ydE s=true then s.2.2.2.1.flatMap idxB else []
theorem fstO (b:yab)(o:yad):(idxO b o).map (λp=>p.1)=spotsO b o:=by
  unfold idxO spotsO
  rw[List.map_map];rfl
theorem map_flat {α β γ:Type}(g:β→γ)(f:α→List β)(l:List α):(l.flatMap f).map g=l.flatMap λx=>(f x).map g:=by
  induction l with
  | nil=>rfl
  | cons x l ih=>rw[List.flatMap_cons,List.map_append,ih,List.flatMap_cons]
theorem fstB (b:yab):(idxB b).map (λp=>p.1)=spotsB b:=by
  unfold idxB spotsB
  rw[map_flat]
  congr 1
  funext o
  exact fstO b o
theorem fstS (s:yaf):(idxS s).map (λp=>p.1)=ydy s:=by
  unfold idxS ydy
  split
  · rw[map_flat]
    congr 1
    funext b
    exact fstB b
  · rfl
theorem index_J3 (bs:List yab)(T1 T2:Int)(os:List yad)(T3 T4:Int)(b:yab)(o:yad)(m1 m2:Nat)(hl:o.2.1.length<536870912)(ht:∀ v∈o.2.1,yaD.f n v=some (v,())):∀ (m k:Nat) (out:SMap),k≤o.2.1.length→o.2.1.length-k<m→(out.map (λp=>p.1)++(o.2.1.drop k).map (spotOf b o)).Pairwise (λx y=>ltSp x y=true) →
    ya3.J3 n m1 m2 m (out,bs,T1,T2,os,T3,T4,o.2.1,((o.2.1.length:Nat):Int),(k:Int),b,o,())=ya3.J4 n m1 m2 (out++(o.2.1.drop k).map (rowSV b o),bs,T1,T2,os,T3,T4,b,())
  | 0,k,_,_,h,_=>by omega
  | m + 1,k,out,hk,h,hp=>by
    rw[ya3.e3]
    simp only[yaS]
    by_cases hlt:k<o.2.1.length
    · rw[ycA (Va.dflt yae) hlt]at hp ⊢
      rw[decide_eq_true (show (k:Int)<((o.2.1.length:Nat):Int) by omega),yap,yaq ⟨by omega,by omega⟩,Int.toNat_natCast,ht _ (ybr hlt),bnd_some,ya7 k (by omega)]
      generalize o.2.1.getD k (Va.dflt yae)=v at hp ⊢
      rw[List.map_cons]at hp
      have hm:mSet yax yae out (b.1,(o.1,(v.1,()))) v=out++[(spotOf b o v,v)]:=mSet_new (spotOf b o v) v out λp hpm=>(List.pairwise_append.1 hp).2.2 p.1 (List.mem_map.2 ⟨p,hpm,rfl⟩) _ (by simp)
      change ya3.J3 n m1 m2 m (mSet yax yae out (b.1,(o.1,(v.1,()))) v,bs,T1,T2,os,T3,T4,o.2.1,_,_,b,o,())=_
      rw[hm,index_J3 bs T1 T2 os T3 T4 b o m1 m2 hl ht m (k+1) _ (by omega) (by omega) (by rw[List.map_append,List.append_assoc];exact hp),List.append_assoc]
      rfl
    · rw[decide_eq_false (show ¬ (k:Int)<((o.2.1.length:Nat):Int) by omega),yam,List.drop_eq_nil_of_le (by omega),List.map_nil,List.append_nil]
theorem index_J2 (bs:List yab)(T1 T2:Int)(b:yab)(m1:Nat)(hl:b.2.2.2.2.1.length<536870912)(ho:∀ o∈b.2.2.2.2.1,o.2.1.length<n∧o.2.1.length<536870912∧∀ v∈o.2.1,yaD.f n v=some (v,())):∀ (m k:Nat) (out:SMap),k≤b.2.2.2.2.1.length→b.2.2.2.2.1.length-k<m→(out.map (λp=>p.1)++(b.2.2.2.2.1.drop k).flatMap (spotsO b)).Pairwise (λx y=>ltSp x y=true) →
    ya3.J2 n m1 m (out,bs,T1,T2,b.2.2.2.2.1,((b.2.2.2.2.1.length:Nat):Int),(k:Int),b,())=ya3.J5 n m1 (out++(b.2.2.2.2.1.drop k).flatMap (idxO b),bs,T1,T2,())
  | 0,k,_,_,h,_=>by omega
  | m + 1,k,out,hk,h,hp=>by
    rw[ya3.e2]
    simp only[yaS]
    by_cases hlt:k<b.2.2.2.2.1.length
    · have hx:=ho _ (ybr (d:=Va.dflt yag) hlt)
      rw[ycA (Va.dflt yag) hlt]at hp ⊢
      rw[decide_eq_true (show (k:Int)<((b.2.2.2.2.1.length:Nat):Int) by omega),yap,yaq ⟨by omega,by omega⟩,Int.toNat_natCast]
      generalize b.2.2.2.2.1.getD k (Va.dflt yag)=o at hp hx ⊢
      rw[List.flatMap_cons,← List.append_assoc]at hp
      have h3:=index_J3 (n:=n) bs T1 T2 b.2.2.2.2.1 ((b.2.2.2.2.1.length:Nat):Int) (k:Int) b o m1 m hx.2.1 hx.2.2 n 0 out (by omega) (by omega) (List.pairwise_append.1 hp).1
      rw[show ((0:Nat):Int)=0 from rfl,List.drop_zero]at h3
      refine h3.trans ?_
      rw[ya3.e4,ya7 k (by omega),List.flatMap_cons,← List.append_assoc]
      refine index_J2 bs T1 T2 b m1 hl ho m (k+1) _ (by omega) (by omega) ?_
      rw[List.map_append]
      have e:(o.2.1.map (rowSV b o)).map (λp=>p.1)=spotsO b o:=fstO b o
      rw[e]
      exact hp
    · rw[decide_eq_false (show ¬ (k:Int)<((b.2.2.2.2.1.length:Nat):Int) by omega),yam,List.drop_eq_nil_of_le (by omega),List.flatMap_nil,List.append_nil]
theorem index_J1 (bs:List yab)(hl:bs.length<536870912)(hb:∀ b∈bs,b.2.2.2.2.1.length<n∧b.2.2.2.2.1.length<536870912∧∀ o∈b.2.2.2.2.1,o.2.1.length<n∧o.2.1.length<536870912∧∀ v∈o.2.1,yaD.f n v=some (v,())):∀ (m k:Nat) (out:SMap),k≤bs.length→bs.length-k<m→(out.map (λp=>p.1)++(bs.drop k).flatMap spotsB).Pairwise (λx y=>ltSp x y=true) →
    ya3.J1 n m (out,bs,((bs.length:Nat):Int),(k:Int),())=ya3.J6 n (out++(bs.drop k).flatMap idxB,())
  | 0,k,_,_,h,_=>by omega
  | m + 1,k,out,hk,h,hp=>by
    rw[ya3.e1]
    simp only[yaS]
    by_cases hlt:k<bs.length
    · have hx:=hb _ (ybr (d:=Va.dflt yaa) hlt)
      rw[ycA (Va.dflt yaa) hlt]at hp ⊢
      rw[decide_eq_true (show (k:Int)<((bs.length:Nat):Int) by omega),yap,yaq ⟨by omega,by omega⟩,Int.toNat_natCast]
      generalize bs.getD k (Va.dflt yaa)=b at hp hx ⊢
      rw[List.flatMap_cons,← List.append_assoc]at hp
      have h2:=index_J2 (n:=n) bs ((bs.length:Nat):Int) (k:Int) b m hx.2.1 hx.2.2 n 0 out (by omega) (by omega) (List.pairwise_append.1 hp).1
      rw[show ((0:Nat):Int)=0 from rfl,List.drop_zero]at h2
      refine h2.trans ?_
      rw[ya3.e5,ya7 k (by omega),List.flatMap_cons,← List.append_assoc]
      refine index_J1 bs hl hb m (k+1) _ (by omega) (by omega) ?_
      rw[List.map_append]
      have e:(b.2.2.2.2.1.flatMap (idxO b)).map (λp=>p.1)=spotsB b:=fstB b
      rw[e]
      exact hp
    · rw[decide_eq_false (show ¬ (k:Int)<((bs.length:Nat):Int) by omega),yam,List.drop_eq_nil_of_le (by omega),List.flatMap_nil,List.append_nil]
theorem meta_Index (h3:300≤n)(hn:n≤536870912){s:yaf}(hs:StS n s):ya3.f n s=some (idxS s,()):=by
  have hl:=hs.len
  rw[ya3.e0,meta_Sound h3 hn hs,bnd_some]
  dsimp only
  have hup:=spots_up (s:=s)
  unfold ydy at hup
  unfold idxS
  cases hst:ydE s with
  | false=>rw[Bool.not_false,yap,if_neg (by decide)]
  | true=>
    rw[hst,if_pos rfl]at hup
    rw[Bool.not_true,yam,if_pos rfl]
    have h1:=index_J1 (n:=n) s.2.2.2.1 (by omega) (λb hb=>by
      have hB:=hs.bk b hb
      have hol:=hB.ol
      refine⟨by omega,by omega,λo ho => ?_⟩
      have hO:=(hB.ob o ho).list
      have hvl:=hO.len
      exact⟨hvl,by omega,λv hv=>clone_Version (by have:=(hO.all v hv).tags.1;show (tags v).length≤_;omega)⟩) n 0 [] (by omega) (by omega) (by rw[List.map_nil,List.nil_append,List.drop_zero];exact hup)
    rw[show ((0:Nat):Int)=0 from rfl,List.drop_zero,List.nil_append]at h1
    rw[h1,ya3.e6]
end
end Go.Proofs.YtemhlkdingkjnaaGreatDoor
namespace Go.Proofs
open Go.Shelf
def Tryz.sortSpot_ren:Go.Shelf.Ren:=⟨fun | 6=>39 | 15=>80 | 14=>79 | 28=>130 | 29=>131 | 20=>122 | 21=>123 | 22=>124 | 23=>125 | 24=>126 | 25=>127 | 26=>128 | 27=>129 | 46=>184 | 47=>185 | 48=>186 | 49=>187 | 50=>188 | 57=>220 | n=>n,fun | 22=>55 | 24=>27 | 25=>106 | 3=>3 | 39=>155 | 0=>0 | 53=>193 | 55=>22 | 4=>4 | 46=>187 | 45=>186 | 50=>96 | 5=>5 | 9=>9 | 66=>230 | 70=>234 | 76=>263 | 77=>264 | n=>n,fun | n=>n⟩
theorem Tryz.sortSpot:Go.Proofs.SlLaysF0.n6 Tryz.prog Tryz.sortSpot_ren:={
  mixed:=by kernel_rfl
  f6:=⟨Tryz.f39.name,by kernel_rfl,Tryz.func39.trans (congrArg some (by kernel_rfl))⟩
  f14:=⟨Tryz.f79.name,by kernel_rfl,Tryz.func79.trans (congrArg some (by kernel_rfl))⟩
  f15:=Tryz.func80.trans (congrArg some (by kernel_rfl))
  f20:=⟨Tryz.f122.name,by kernel_rfl,Tryz.func122.trans (congrArg some (by kernel_rfl))⟩
  f21:=⟨Tryz.f123.name,by kernel_rfl,Tryz.func123.trans (congrArg some (by kernel_rfl))⟩
  f22:=⟨Tryz.f124.name,by kernel_rfl,Tryz.func124.trans (congrArg some (by kernel_rfl))⟩
  f23:=⟨Tryz.f125.name,by kernel_rfl,Tryz.func125.trans (congrArg some (by kernel_rfl))⟩
  f24:=⟨Tryz.f126.name,by kernel_rfl,Tryz.func126.trans (congrArg some (by kernel_rfl))⟩
  f25:=⟨Tryz.f127.name,by kernel_rfl,Tryz.func127.trans (congrArg some (by kernel_rfl))⟩
  f26:=⟨Tryz.f128.name,by kernel_rfl,Tryz.func128.trans (congrArg some (by kernel_rfl))⟩
  f27:=⟨Tryz.f129.name,by kernel_rfl,Tryz.func129.trans (congrArg some (by kernel_rfl))⟩
  f28:=Tryz.func130.trans (congrArg some (by kernel_rfl))
  f29:=Tryz.func131.trans (congrArg some (by kernel_rfl))
  f46:=⟨Tryz.f184.name,by kernel_rfl,Tryz.func184.trans (congrArg some (by kernel_rfl))⟩
  f47:=Tryz.func185.trans (congrArg some (by kernel_rfl))
  f48:=Tryz.func186.trans (congrArg some (by kernel_rfl))
  f49:=⟨Tryz.f187.name,by kernel_rfl,Tryz.func187.trans (congrArg some (by kernel_rfl))⟩
  f50:=⟨Tryz.f188.name,by kernel_rfl,Tryz.func188.trans (congrArg some (by kernel_rfl))⟩
  f57:=⟨Tryz.f220.name,by kernel_rfl,Tryz.func220.trans (congrArg some (by kernel_rfl))⟩
  t0:=Tryz.underlying0
  a0:=Tryz.isAgg0
  z0:=Tryz.sizeOf0
  v0:=Tryz.zeroValue0
  t3:=Tryz.underlying3
  a3:=Tryz.isAgg3
  z3:=Tryz.sizeOf3
  v3:=Tryz.zeroValue3
  t4:=Tryz.underlying4
  a4:=Tryz.isAgg4
  z4:=Tryz.sizeOf4
  v4:=Tryz.zeroValue4
  t5:=Tryz.underlying5
  a5:=Tryz.isAgg5
  z5:=Tryz.sizeOf5
  v5:=Tryz.zeroValue5
  t9:=Tryz.underlying9
  a9:=Tryz.isAgg9
  z9:=Tryz.sizeOf9
  v9:=Tryz.zeroValue9
  t22:=Tryz.underlying55
  a22:=Tryz.isAgg55
  z22:=Tryz.sizeOf55
  v22:=Tryz.zeroValue55
  t25:=Tryz.underlying106
  a25:=Tryz.isAgg106
  z25:=Tryz.sizeOf106
  v25:=Tryz.zeroValue106
  t39:=Tryz.underlying155
  a39:=Tryz.isAgg155
  z39:=Tryz.sizeOf155
  v39:=Tryz.zeroValue155
  t45:=Tryz.underlying186
  a45:=Tryz.isAgg186
  z45:=Tryz.sizeOf186
  v45:=Tryz.zeroValue186
  t46:=Tryz.underlying187
  a46:=Tryz.isAgg187
  z46:=Tryz.sizeOf187
  v46:=Tryz.zeroValue187
  t50:=Tryz.underlying96
  a50:=Tryz.isAgg96
  z50:=Tryz.sizeOf96
  v50:=Tryz.zeroValue96
  t53:=Tryz.underlying193
  a53:=Tryz.isAgg193
  z53:=Tryz.sizeOf193
  v53:=Tryz.zeroValue193
  t55:=Tryz.underlying22
  a55:=Tryz.isAgg22
  z55:=Tryz.sizeOf22
  v55:=Tryz.zeroValue22
  t66:=Tryz.underlying230
  a66:=Tryz.isAgg230
  z66:=Tryz.sizeOf230
  v66:=Tryz.zeroValue230
  t70:=Tryz.underlying234
  a70:=Tryz.isAgg234
  z70:=Tryz.sizeOf234
  v70:=Tryz.zeroValue234
  t76:=Tryz.underlying263
  a76:=Tryz.isAgg263
  z76:=Tryz.sizeOf263
  v76:=Tryz.zeroValue263
  t77:=Tryz.underlying264
  a77:=Tryz.isAgg264
  z77:=Tryz.sizeOf264
  v77:=Tryz.zeroValue264 }
end Go.Proofs
namespace Go.Proofs.YtemhlkdingkjnaaGreatDoor
open Go Go.Va Go.Proofs Go.RowKit Go.Lib Go.Sort Go.Shelf
theorem isNaN_u64 (x:Int)(w:World):Calls Tryz.prog 91 #[.int .u64 x] w λe w'=>e = .returned (.bool false)∧w'=w:=by
  have mixed:=mixed
  go_enter Tryz.func91,Tryz.ntmps91
  go_wp2
  go_ret
  exact⟨by simp,rfl⟩
set_option maxHeartbeats 1000000 in
theorem compare_u64 (x y:Int)(w:World):Calls Tryz.prog 56 #[.int .u64 x,.int .u64 y] w λe w'=>e = .returned (.int .i64 (Lib.compareInt x y))∧w'=w:=by
  have mixed:=mixed
  go_enter Tryz.func56,Tryz.ntmps56
  go_wp2_with (go_at_call 91;refine (isNaN_u64 _ _).mono ?_;rintro e w' ⟨rfl,hw⟩;rw[hw])
  all_goals (go_ret;refine⟨?_,rfl⟩;unfold Lib.compareInt;(repeat' split)<;>first | rfl | (exfalso;omega))
theorem isNaN_str (x:ByteArray)(w:World):Calls Tryz.prog 112 #[.string x] w λe w'=>e = .returned (.bool false)∧w'=w:=by
  have mixed:=mixed
  go_enter Tryz.func112,Tryz.ntmps112
  go_wp2
  go_ret
  exact⟨by simp,rfl⟩
theorem gtr_str (x y:ByteArray)(w:World):(binOp .gtr 9 (.string x) (.string y)).run Tryz.prog w = .ok (.bool (!(ltS x y||eqS x y))) w:=rfl
set_option maxHeartbeats 1000000 in
theorem compare_str (x y:ByteArray)(w:World):Calls Tryz.prog 69 #[.string x,.string y] w λe w'=>e = .returned (.int .i64 (cmp3 x y))∧w'=w:=by
  have mixed:=mixed
  have h1:=gtr_str x y
  have h2:Op.bytesLess x.toList y.toList=ltS x y:=rfl
  unfold cmp3
  cases hp:ltS x y
  · cases hq:eqS x y
    all_goals
      rw[hp]at h2
      rw[hp,hq]at h1
      go_enter Tryz.func69,Tryz.ntmps69
      go_wp2_with (go_at_call 112;refine (isNaN_str _ _).mono ?_;rintro e w' ⟨rfl,hw⟩;rw[hw])
    all_goals
      go_ret
      exact⟨rfl,rfl⟩
  · rw[hp]at h2
    go_enter Tryz.func69,Tryz.ntmps69
    go_wp2_with (go_at_call 112;refine (isNaN_str _ _).mono ?_;rintro e w' ⟨rfl,hw⟩;rw[hw])
    go_ret
    exact⟨rfl,rfl⟩
theorem or3_1 {a b c:Int}(h:a≠0):or3 a b c=a:=by unfold or3;rw[if_pos h]
theorem or3_2 {a b c:Int}(h:a=0)(h2:b≠0):or3 a b c=b:=by unfold or3;rw[if_neg (λq=>q h),if_pos h2]
theorem or3_3 {a b c:Int}(h:a=0)(h2:b=0):or3 a b c=c:=by unfold or3;rw[if_neg (λq=>q h),if_neg (λq=>q h2)]
theorem or_three (a b c:Int) (w:World) (k:Nat) (ha : -1≤a∧a≤1) (hb : -1≤b∧b≤1) (h0:w.cell? ⟨k,0,none⟩=some (.int .i64 a)) (h1:w.cell? ⟨k,1,none⟩=some (.int .i64 b)) (h2:w.cell? ⟨k,2,none⟩=some (.int .i64 c)) :
    Calls Tryz.prog 81 #[.slice (some ⟨k,0,none⟩) 3 3] w λe w'=>e = .returned (.int .i64 (or3 a b c))∧w'=w:=by
  have mixed:=mixed
  go_enter Tryz.func81,Tryz.ntmps81
  go_wp2_with fail
  go_loop [8] (λi=>i = .int .i64 0∨(i = .int .i64 1∧a=0)∨(i = .int .i64 2∧a=0∧b=0)∨(i = .int .i64 3∧a=0∧b=0∧c=0)) (λi=>3-(intOf i).toNat)
  case atStart=>exact .inl rfl
  case round=>
    rcases hrel with rfl | ⟨rfl,ea⟩ | ⟨rfl,ea,eb⟩ | ⟨rfl,ea,eb,ec⟩
    · go_wp2_with fail
      · have h:a≠0:=by simpa using ‹(a != 0)=true›
        go_ret
        exact⟨congrArg (λz=>Ending.returned (Value.int .i64 z)) (or3_1 h).symm,rfl⟩
      · have h:a=0:=by simpa using ‹(a != 0)=false›
        exact⟨.inr (.inl ⟨rfl,h⟩),by decide⟩
    · go_wp2_with fail
      · have h:b≠0:=by simpa using ‹(b != 0)=true›
        go_ret
        exact⟨congrArg (λz=>Ending.returned (Value.int .i64 z)) (or3_2 rfl h).symm,rfl⟩
      · have h:b=0:=by simpa using ‹(b != 0)=false›
        exact⟨.inr (.inr (.inl ⟨rfl,ea,h⟩)),by decide⟩
    · go_wp2_with fail
      · go_ret
        exact⟨congrArg (λz=>Ending.returned (Value.int .i64 z)) (or3_3 rfl rfl).symm,rfl⟩
      · have h:c=0:=by simpa using ‹(c != 0)=false›
        exact⟨.inr (.inr (.inr ⟨rfl,ea,eb,h⟩)),by decide⟩
    · go_wp2_with fail
      go_ret
      exact⟨congrArg (λz=>Ending.returned (Value.int .i64 z)) (or3_3 rfl rfl).symm,rfl⟩
theorem new3 (w:World)(a b c:Value):(w.alloc (.cells #[a,b,c] 3)).cell? ⟨w.heap.size,0,none⟩=some a∧(w.alloc (.cells #[a,b,c] 3)).cell? ⟨w.heap.size,1,none⟩=some b∧(w.alloc (.cells #[a,b,c] 3)).cell? ⟨w.heap.size,2,none⟩=some c:=by
  have h:=heap_alloc_new w (.cells #[a,b,c] 3)
  unfold World.cell?
  dsimp only
  rw[h]
  exact⟨rfl,rfl,rfl⟩
theorem cmp3_in (a b:ByteArray) : -1≤cmp3 a b∧cmp3 a b≤1:=by
  unfold cmp3
  split
  · omega
  · split<;>omega
set_option maxRecDepth 100000 in
set_option maxHeartbeats 1000000 in
theorem by_Spot (A B:Array Value)(x y:Spot)(hA:A = #[.string x.1,.string x.2.1,.int .u64 x.2.2.1])(hB:B = #[.string y.1,.string y.2.1,.int .u64 y.2.2.1])(W:World) :
    Calls Tryz.prog 40 #[.agg A,.agg B] W λe w'=>e = .returned (.int .i64 (cmpSp x y))∧∃ q os',w'=grow (W.drewN q) os':=by
  have mixed:=mixed
  subst hA;subst hB
  have k1:=compare_str x.1 y.1
  have k2:=compare_str x.2.1 y.2.1
  have k3:=compare_u64 x.2.2.1 y.2.2.1
  have k4:=λw k=>or_three (cmp3 x.1 y.1) (cmp3 x.2.1 y.2.1) (Lib.compareInt x.2.2.1 y.2.2.1) w k (cmp3_in _ _) (cmp3_in _ _)
  unfold cmpSp
  generalize cmp3 x.1 y.1=a at k1 k4 ⊢
  generalize cmp3 x.2.1 y.2.1=b at k2 k4 ⊢
  generalize Lib.compareInt x.2.2.1 y.2.2.1=c at k3 k4 ⊢
  generalize or3 a b c=r at k4 ⊢
  go_enter Tryz.func40,Tryz.ntmps40
  go_wp2_with fail
  refine wp_region_still_tail 15 (by kernel_rfl) (by kernel_rfl) ?_
  simp only[List.take_succ_cons,List.take_zero,List.drop_succ_cons,List.drop_zero]
  change wpStill Tryz.prog _ (World.drew _) (λa'=>wpList _ _ _ _ a' (World.drew _)) _ _
  obtain⟨W2,hW2⟩:∃ W2,W2=((W.alloc (.cells #[.string x.1,.string x.2.1,.int .u64 x.2.2.1] 27)).alloc (.cells #[.string y.1,.string y.2.1,.int .u64 y.2.2.1] 27)).drew:=⟨_,rfl⟩
  have hs:(W.alloc (.cells #[.string x.1,.string x.2.1,.int .u64 x.2.2.1] 27)).heap.size=W.heap.size+1:=by simp
  have b1:W2.heap[W.heap.size]?=some (.cells #[.string x.1,.string x.2.1,.int .u64 x.2.2.1] 27):=by
    rw[hW2]
    exact (heap_alloc_old (W.alloc _) _ (by simp)).trans (heap_alloc_new W _)
  have b2:W2.heap[W.heap.size+1]?=some (.cells #[.string y.1,.string y.2.1,.int .u64 y.2.2.1] 27):=by
    rw[hW2,← hs]
    exact heap_alloc_new (W.alloc _) _
  have x0:W2.cell? ⟨W.heap.size,0,none⟩=some (.string x.1):=by unfold World.cell?; simp[b1]
  have x1:W2.cell? ⟨W.heap.size,1,none⟩=some (.string x.2.1):=by unfold World.cell?; simp[b1]
  have x2:W2.cell? ⟨W.heap.size,2,none⟩=some (.int .u64 x.2.2.1):=by unfold World.cell?; simp[b1]
  have y0:W2.cell? ⟨W.heap.size+1,0,none⟩=some (.string y.1):=by unfold World.cell?; simp[b2]
  have y1:W2.cell? ⟨W.heap.size+1,1,none⟩=some (.string y.2.1):=by unfold World.cell?; simp[b2]
  have y2:W2.cell? ⟨W.heap.size+1,2,none⟩=some (.int .u64 y.2.2.1):=by unfold World.cell?; simp[b2]
  rw[← hW2]
  have hend:∃ q os',W2=grow (W.drewN q) os':=⟨1,_,by rw[hW2,alloc_eq_grow,alloc_eq_grow,grow_grow];rfl⟩
  clear hW2 b1 b2 hs
  still_step
  still_step
  still_step
  still_step
  still_call (k1 W2)
  still_step
  still_step
  still_step
  still_step
  still_call (k2 W2)
  still_step
  still_step
  still_step
  still_step
  still_call (k3 W2)
  refine wpStill_nil ?_
  change wpList _ _ _ _ _ W2
  clear x0 x1 x2 y0 y1 y2 k1 k2 k3
  go_wp2_with (go_at_call 81;refine (k4 _ W2.heap.size (new3 W2 _ _ _).1 (new3 W2 _ _ _).2.1 (new3 W2 _ _ _).2.2).mono ?_;rintro en w3 ⟨rfl,rfl⟩)
  go_ret
  obtain⟨q,os',e⟩:=hend
  exact⟨rfl,q,_,by rw[e,alloc_eq_grow,grow_grow]⟩
def spotC (x:Spot):List Value:=[.string x.1,.string x.2.1,.int .u64 x.2.2.1]
def spotV (x:Spot):Value := .agg (spotC x).toArray
theorem rd_spot {S:Nat→Prop}{w:World}{x:Spot}{cs:List Value}(h:Rd S w yax x cs):cs=spotC x:=by
  obtain⟨c1,c2,e,h1,d1,d2,e2,h2,f1,f2,e3,h3,h4⟩:=h
  have h1:c1=[.string x.1]:=h1
  have h2:d1=[.string x.2.1]:=h2
  have h3:f1=[.int .u64 x.2.2.1]:=h3
  have h4:f2=[]:=h4
  rw[e,e2,e3,h1,h2,h3,h4];rfl
noncomputable def sortE:Entry:=sortEn 39 40 yax ltSp
theorem sort_Spot:EntryOk Tryz.prog sortE:=
  sort_ok Tryz.sortSpot (e:=yax) (tabIs 27 _ rfl).1 rfl rfl (cf:=cmpSp) cmpSp_neg swo_Sp (enters_of Tryz.func40 (by kernel_rfl) rfl)
    (λ_ W _ _ _ _ hx hy=>by_Spot _ _ _ _ (congrArg List.toArray (rd_spot hx)) (congrArg List.toArray (rd_spot hy)) W) ⟨Tryz.f39,Tryz.func39,by kernel_rfl,by kernel_rfl⟩
end Go.Proofs.YtemhlkdingkjnaaGreatDoor
namespace Go.Va
open Go
theorem leaf_row_fr [Gl] {P : Program} {fid t : Nat} {e : Ty} {ais : List Ai} {f : DIn ais → Option (DOut ais [(t, .val (.r 0 e))])} (hfn : ∃ fn, P.funcs[fid]? = some fn ∧ (fn.name == "runtime.NumGoroutine") = false ∧ fn.body.isNone = false)
    (hbn:boxSig 0 ais=[]) (hheap:∀ v,ybT (inSig 0 ais) v=[])
    (h:∀ v u,f v=some u→∀ E w vals,GlOk E w→(∀ b,E.S b→b<w.heap.size)→C E w (ycn (ydp 0 ais v)) vals→Calls P fid vals.toArray w λen w'=>
      ∃ x,en = .returned x∧Grow w w'∧((x = .slice none 0 0∧(u.1:List (Den e))=[])∨∃ g cs ty fr c1 c2,x = .slice (some ⟨g,0,none⟩) (List.length (α:=Den e) u.1) (List.length (α:=Den e) u.1)∧w.heap.size≤g∧w'.heap[g]?=some (.cells cs ty fr)∧NoFr cs.size fr∧cs.toList=c1++c2∧∀ S w',RdL (Rd S w' e) u.1 c1)) :
    FnOk P fid ais [(t,.val (.r 0 e))] f:=by
  refine⟨hfn,λv u hv P0 S0 E w vals hh hc=>(h v u hv E w vals hh.gl hh.sIn hc).mono ?_⟩
  rintro en w' ⟨x,rfl,hg,hx⟩
  have e1:ydh (inSig 0 ais) v=λ_ => .un:=by unfold ydh;rw[hheap];rfl
  rw[e1]at hh
  have e2:ydh (gOut ais [(t,.val (.r 0 e))]) u=upd1 (nmO 0) (.live (.row e u.1)) (λ_ => .un):=by
    have:∀ (g:List Si),g=[]→∀ (z:Den (Ty.slice e)) (y:Dens g),ydh (.val t (Sh.nm (.r 0 e) (nmO 0))::g) (z,y)=upd1 (nmO 0) (.live (.row e z)) (λ_ => .un):=by
      intro g hg;subst hg;intro z y;rfl
    exact this _ hbn u.1 u.2
  have e3:oneAV (outAVs id id 0 [(t,.val (.r 0 e))] (boxSig 0 ais) u) = .ow (nmO 0) e none:=rfl
  rcases hx with ⟨rfl,hnil⟩ | ⟨g,cs,ty,fr,c1,c2,rfl,hge,hblk,hfr,hcs,hr⟩
  · have ho:OREL (E.new (nmO 0) none ⟨.row e,0,List.length (α:=Den e) u.1⟩) w' (nmO 0) (.row e u.1):=by
      refine⟨0,by simp[Env.new],?_⟩
      simp only[Env.new,if_true]
      exact hnil
    obtain⟨g1,g2⟩:=hh.new (q:=nmO 0) (b:=none) rfl hg (λx hx=>nomatch hx) ho
    refine⟨_,_,rfl,by rw[e2];exact g1,g2.pub,?_⟩
    rw[e3,V_one rfl]
    refine⟨none,0,0,rfl,.inl rfl,λL hL => ?_⟩
    simp only[Env.new,if_true]at hL
    injection hL with hL
    subst hL
    refine⟨rfl,0,⟨rfl,?_⟩,by simp,?_⟩
    · show 0=List.length (α:=Den e) u.1
      rw[hnil];rfl
    · simp only[Env.new,if_true]
  · have hl:c1.length=List.length (α:=Den e) u.1*e.sz:=RdL.length (λx c=>Rd.length (λ_=>True) w e x c) u.1 c1 (hr _ _)
    have hcl:c1.length≤cs.size:=by
      have:=congrArg List.length hcs
      rw[List.length_append,Array.length_toList]at this
      omega
    have ho:OREL (E.new (nmO 0) (some g) ⟨.row e,cs.size,List.length (α:=Den e) u.1⟩) w' (nmO 0) (.row e u.1):=by
      refine⟨cs.size,by simp[Env.new],?_⟩
      simp only[Env.new,if_true]
      exact⟨cs,ty,fr,c1,c2,hblk,hfr,rfl,hcs,hr _ _⟩
    obtain⟨g1,g2⟩:=hh.new (q:=nmO 0) (b:=some g) rfl hg (λx hx=>by injection hx with hx;omega) ho
    refine⟨_,_,rfl,by rw[e2];exact g1,g2.pub,?_⟩
    rw[e3,V_one rfl]
    refine⟨some ⟨g,0,none⟩,_,_,rfl,.inl rfl,λL hL => ?_⟩
    simp only[Env.new,if_true]at hL
    injection hL with hL
    subst hL
    refine⟨rfl,0,⟨rfl,rfl⟩,by simp,?_⟩
    simp only[Env.new,if_true]
    exact⟨.inr (by simp),Nat.le_refl _,by simp only[Nat.zero_add];omega,by simp⟩
end Go.Va
namespace Go.Proofs.YtemhlkdingkjnaaGreatDoor
open Go Go.Va Go.Proofs Go.RowKit
theorem spot_rd {S:Nat→Prop}{w:World}(x:Spot):Rd S w yax x (spotC x):=
  ⟨[.string x.1],_,rfl,rfl,[.string x.2.1],_,rfl,rfl,[.int .u64 x.2.2.1],[],rfl,rfl,rfl⟩
theorem spots_rd {S:Nat→Prop}{w:World}(l:List Spot):RdL (Rd S w yax) l (l.flatMap spotC):=by
  induction l with
  | nil=>exact rfl
  | cons x l ih=>exact⟨spotC x,_,rfl,spot_rd x,ih⟩
theorem mp_keys {E:Env}{w:World}:∀ (l:SMap) (es:List MapEntry),MpL E w yax yae l es→es.map (λe=>e.key)=l.map λp=>spotV p.1
  | [],es,h=>by rw[show es=[] from h];rfl
  | p::l,es,⟨e,r,h1,h2,h3,h4⟩=>by
    subst h1
    obtain⟨c,e1,hr⟩:=(V_agg (E:=E) (v := .data yax p.1) (by rfl)).1 h2
    have:=rd_spot hr
    rw[List.map_cons,List.map_cons,mp_keys l r h4,e1]
    unfold spotV
    rw[← this]
theorem smap_calls {n:Nat}{s:yaf}{L:SMap}(h:ya3.f n s=some (L,())){w:World}{S:Nat→Prop}(hS:∀ b,S b→b<w.heap.size)
    (hgl:(∀ p∈Gl.tab,S p.1∧∃ cs,p.2 cs∧At w ⟨p.1,0,none⟩ cs)∧∀ p∈Gl.ex,S p.1∧∃ o,w.heap[p.1]?=some o∧p.2 o) {c:Array Value} (hr:Rd S w yah s c.toList) :
    Calls Tryz.prog 38 #[.agg c] w λen w'=>Grow w w'∧∃ b es ck,en = .returned (.map (some b))∧w.heap.size≤b∧w'.heap[b]?=some (.map es ck)∧StampL es.toList ck∧es.toList.map (λe=>e.key)=L.map λp=>spotV p.1:=by
  let E:Env:=⟨λ_=>none,λ_=>none,λ_=>False,S⟩
  have hh:HREL (λb=>b<w.heap.size) S E (ydh (inSig 0 ya3.ia) (s,())) w:=by
    have e:ydh (inSig 0 ya3.ia) (s,())=λ_ => .un:=rfl
    rw[e]
    exact⟨λr=>⟨id,rfl⟩,λr r' b h=>by simp[Ent.isLive]at h,λr b h=>by simp[Ent.isLive]at h,hS,λb h=>h,λb hb => .inl hb,hgl⟩
  have hc:C E w (ycn (ydp 0 ya3.ia (s,()))) [.agg c]:=by
    refine⟨.agg c,[],rfl,?_,rfl⟩
    exact (V_agg (E:=E) (by rfl)).2 ⟨c,rfl,hr⟩
  have:=(ya3.ok n).run (s,()) _ h _ _ E w [.agg c] hh hc
  refine this.mono ?_
  rintro en w' ⟨E',x,rfl,g1,g2,g3⟩
  refine⟨⟨g2.keepP.os,g2.keepP.tape,g2.keepP.output,g2.keepP.size,λb hb=>g2.keepP.block b hb hb⟩,?_⟩
  have hlk:ydh (gOut ya3.ia ya3.io) (L,()) (nmO 0) = .live (.mp yax yae L):=rfl
  have g3:V E' w' (.mp (nmO 0) yax yae) x:=g3
  obtain⟨b,es,ck,rfl,k1,k2,k3,k4,k5⟩:=mp_obj g1 hlk g3
  refine⟨b,es,ck,rfl,?_,k3,k5,mp_keys L _ k4⟩
  have:=(g1.sep (nmO 0) b (by rw[hlk];rfl) k1).2
  exact Nat.le_of_not_lt this
end Go.Proofs.YtemhlkdingkjnaaGreatDoor
namespace Go.Proofs.YtemhlkdingkjnaaGreatDoor
open Go Go.Va Go.Proofs Go.RowKit Go.ChangeMaps
def unspot:Value→Spot
  | .agg cs=>match cs.toList with
    | [.string a,.string b,.int _ c]=>(a,(b,(c,())))
    | _=>(⟨#[]⟩,(⟨#[]⟩,(0,())))
  | _=>(⟨#[]⟩,(⟨#[]⟩,(0,())))
theorem unspot_spot (x:Spot):unspot (spotV x)=x:=rfl
theorem unspot_map (l:List Spot):(l.map spotV).map unspot=l:=by
  rw[List.map_map,show (unspot∘spotV)=id from funext unspot_spot,List.map_id]
def itLeft (es:Array MapEntry)(r:Nat)(w:World):Nat:=match w.heap[r]? with
  | some (.mapIter _ _ seen _)=>(leftOf es seen).size
  | _=>0
theorem ItOk.left {w:World}{b r:Nat}{es:Array MapEntry}{ck:Nat}{vis:List MapEntry}{seen:Array Nat}(h:ItOk w b r es ck vis seen):itLeft es r w=(leftOf es seen).size:=by
  unfold itLeft
  rw[h.it]
theorem part_perm {l k:List Spot}(h:Part ltSp l)(e:k.Perm l):Part ltSp k:=(e.pairwise_iff (λh=>h.symm)).2 h
theorem sort_perm {l k:List Spot} (h:Part ltSp l) (e:k.Perm l):sortD ltSp k=sortD ltSp l:=by
  have h1:(sortD ltSp k).Perm k:=List.mergeSort_perm _ _
  refine sortD_is swo_Sp h (h1.trans e) ?_
  have:=List.pairwise_mergeSort (le:=λx y=>!ltSp y x) (λa b c h1 h2 => ?_) (λa b => ?_) k
  · exact this.imp λh=>by simpa using h
  · simp only[Bool.not_eq_true']at h1 h2 ⊢
    exact swo_Sp.ntrans _ _ _ h2 h1
  · cases h1:ltSp a b with
    | false=>simp
    | true=>
      cases h2:ltSp b a with
      | false=>rfl
      | true=>
        have:=swo_Sp.trans _ _ _ h1 h2
        rw[swo_Sp.irrefl]at this
        exact nomatch this
theorem rdL_spots {S:Nat→Prop}{w:World}:∀ {l:List Spot} {cs:List Value},RdL (Rd S w yax) l cs→cs=l.flatMap spotC
  | [],cs,h=>h
  | x::l,cs,⟨c1,c2,e,h1,h2⟩=>by rw[e,rd_spot h1,rdL_spots h2];rfl
theorem clipS_none (w:World):Calls Tryz.prog 41 #[.slice none 0 0] w λe w'=>e = .returned (.slice none 0 0)∧w'=w:=by
  have mixed:=mixed
  go_enter Tryz.func41,Tryz.ntmps41
  go_wp2_with fail
  go_ret
  exact⟨rfl,rfl⟩
theorem clipS_some (b n cap:Nat)(hn:n≤cap)(w:World):Calls Tryz.prog 41 #[.slice (some ⟨b,0,none⟩) n cap] w λe w'=>e = .returned (.slice (some ⟨b,0,none⟩) n n)∧w'=w:=by
  have mixed:=mixed
  go_enter Tryz.func41,Tryz.ntmps41
  go_wp2_with fail
  go_ret
  exact⟨rfl,rfl⟩
end Go.Proofs.YtemhlkdingkjnaaGreatDoor
namespace Go.Proofs.YtemhlkdingkjnaaGreatDoor
open Go Go.Va Go.Proofs Go.RowKit Go.ChangeMaps
def OutRow (w w':World)(x:Value)(l:List Spot):Prop:=(x = .slice none 0 0∧l=[])∨∃ g cs ty fr c1 c2,x = .slice (some ⟨g,0,none⟩) l.length l.length∧w.heap.size≤g∧w'.heap[g]?=some (.cells cs ty fr)∧NoFr cs.size fr∧cs.toList=c1++c2∧∀ S w',RdL (Rd S w' yax) l c1
def SortedRow (w:World)(base:Nat)(v:Value)(l:List Spot):Prop:=(v = .slice none 0 0∧l=[])∨∃ g cap cs ty fr c1 c2,v = .slice (some ⟨g,0,none⟩) l.length cap∧l.length≤cap∧base≤g∧w.heap[g]?=some (.cells cs ty fr)∧NoFr cs.size fr∧cs.toList=c1++c2∧c1=l.flatMap spotC
theorem flat_len (l:List Spot):(l.flatMap spotC).length=l.length*3:=by
  induction l with
  | nil=>rfl
  | cons x l ih=>rw[List.flatMap_cons,List.length_append,ih,List.length_cons,Nat.add_mul];show 3+_=_;omega
theorem sort_len (l:List Spot):(sortD ltSp l).length=l.length:=(List.mergeSort_perm _ _).length_eq
theorem sort_own {w:World}{S:Nat→Prop}(hS:∀ b,S b→b<w.heap.size)
    (hgl:(∀ p∈Gl.tab,S p.1∧∃ cs,p.2 cs∧At w ⟨p.1,0,none⟩ cs)∧∀ p∈Gl.ex,S p.1∧∃ o,w.heap[p.1]?=some o∧p.2 o) {base:Nat} (hSb:∀ b,S b→b<base) {v:Value} {K:List Spot} (h:w.ownsRow base 27 3 v K.length (K.flatMap spotC)) (hp:Part ltSp K) (hl:K.length≤16777216) :
    Calls Tryz.prog 39 #[v,.func (.func 40) #[] #[]] w λen w'=>en = .returned (.tuple #[])∧(∃ row,w.grownBy w' row∧∀ k,row=some k→base≤k)∧SortedRow w' base v (sortD ltSp K):=by
  rcases h.2 with ⟨rfl,h0⟩ | ⟨g,cap,cur,rfl,h1,h2,h3,h4,h5,h6⟩
  · have hK:K=[]:=List.length_eq_zero_iff.1 h0
    subst hK
    refine (AnyF.slices_SortFunc_none Tryz.sortSpot none 0 (.func (.func 40) #[] #[]) w).mono ?_
    rintro en w' ⟨rfl,rfl⟩
    exact⟨rfl,⟨none,⟨rfl,rfl,rfl,Nat.le_refl _,λ_ _ _=>rfl⟩,λk h=>nomatch h⟩,.inl ⟨rfl,List.length_eq_zero_iff.1 (sort_len [])⟩⟩
  · have hgS:¬ S g:=λhg=>by have:=hSb g hg;omega
    have hfl:=flat_len K
    have hrow:RowAt w S yax g K:=⟨cur,27,(0,0),K.flatMap spotC,cur.toList.drop (K.length*3),h2,NoFr.zero _,by rw[← h6,List.take_append_drop],spots_rd K⟩
    refine (sort_calls sort_Spot (by omega) hp hS hgl hgS hrow h3 (λcs t fr hb => ?_)).mono ?_
    · rw[h2]at hb
      injection hb with hb
      injection hb with hb _
      rw[← hb,h5]
      exact Nat.le_refl _
    · rintro en w' ⟨rfl,hg,S',cs,t,fr,c1,c2,k1,k2,k3,k4⟩
      have hln:=sort_len K
      refine⟨rfl,⟨some g,hg,λk hk=>by injection hk with hk;omega⟩,.inr ⟨g,cap,cs,t,fr,c1,c2,by rw[hln],by omega,h1,k1,k2,k3,rdL_spots k4⟩⟩
theorem clip_sorted {w0 w:World}{base:Nat}{v:Value}{l:List Spot}(h:SortedRow w base v l)(hb:w0.heap.size≤base):Calls Tryz.prog 41 #[v] w λe w'=>∃ x,e = .returned x∧w'=w∧OutRow w0 w x l:=by
  rcases h with ⟨rfl,rfl⟩ | ⟨g,cap,cs,ty,fr,c1,c2,rfl,h1,h2,h3,h4,h5,h6⟩
  · refine (clipS_none w).mono ?_
    rintro e w' ⟨rfl,rfl⟩
    exact⟨_,rfl,rfl,.inl ⟨rfl,rfl⟩⟩
  · refine (clipS_some g l.length cap h1 w).mono ?_
    rintro e w' ⟨rfl,rfl⟩
    exact⟨_,rfl,rfl,.inr ⟨g,cs,ty,fr,c1,c2,rfl,Nat.le_trans hb h2,h3,h4,h5,λS w'=>h6 ▸ spots_rd l⟩⟩
theorem Grow.through {a b c:World}{row:Option Nat}(h:Grow a b)(g:b.grownBy c row)(hr:∀ k,row=some k→a.heap.size≤k):Grow a c:=
  ⟨g.os.trans h.os,g.tape.trans h.tape,g.output.trans h.output,Nat.le_trans h.size g.size,λx hx=>(g.block x (Nat.lt_of_lt_of_le hx h.size) (λe=>by have:=hr x e.symm;omega)).trans (h.block x hx)⟩
theorem own_next {w w':World}{base r:Nat}{v:Value}{k:Nat}{xs:List Value}(h:w.ownsRow base 27 3 v k xs)(hg:w.grownBy w' (some r))(hr:r<base):w'.ownsRow base 27 3 v k xs:=by
  refine h.kept hg ?_
  cases hv:v.ownBlock with
  | none=>exact .inl rfl
  | some k=>right;intro e;injection e with e;have:=(h.lt k hv).1;omega
theorem nat_sub_len:∀ (a b:List Nat),a.Nodup→(∀ x∈a,x∈b)→a.length≤b.length
  | [],_,_,_=>Nat.zero_le _
  | x::a,b,hn,hs=>by
    rw[List.nodup_cons]at hn
    have hx:=hs x (by simp)
    have:=nat_sub_len a (b.erase x) hn.2 (λy hy=>(List.mem_erase_of_ne (λe=>hn.1 (by rw[← e];exact hy))).2 (hs y (by simp[hy])))
    rw[List.length_erase_of_mem hx]at this
    have:=List.length_pos_of_mem hx
    rw[List.length_cons]
    omega
theorem ItOk.len {w:World}{b r:Nat}{es:Array MapEntry}{ck:Nat}{vis:List MapEntry}{seen:Array Nat}(h:ItOk w b r es ck vis seen):vis.length≤es.toList.length:=by
  have:=nat_sub_len (vis.map λe=>e.born) (es.toList.map λe=>e.born) (born_nodup h.nd) (λx hx=>by
    obtain⟨e,he,rfl⟩:=List.mem_map.1 hx
    exact List.mem_map.2 ⟨e,h.sub e he,rfl⟩)
  simpa using this
theorem info27z:(Tryz.prog.info? 27).map (λi=>(i.zero,i.size,i.bytes))=some (some (.agg #[.string ⟨#[]⟩,.string ⟨#[]⟩,.int .u64 0]),3,40):=by kernel_rfl
theorem run_build1 (x:Spot)(w:World):(Instr.buildSlice 55 1 #[(0,.agg (spotC x).toArray)]).run Tryz.prog w = .ok (.slice (some ⟨w.heap.size,0,none⟩) 1 1) (w.alloc (.cells (spotC x).toArray 27)):=by
  obtain⟨i0,hi,hz0,hz1,hz2⟩:=info_parts info27z
  refine run_buildSlice w 55 27 1 _ _ i0 _ Tryz.underlying55 hi hz0 (by rw[hz1];omega) (by rw[hz1];omega) ?_
  rw[hz1]
  have h:=Great.fill_whole (s:=3) (by decide) [.agg (spotC x).toArray] ((Array.range (1*3)).map λk=>(Value.agg #[.string ⟨#[]⟩,.string ⟨#[]⟩,.int .u64 0]).cells[k%(Value.agg #[.string ⟨#[]⟩,.string ⟨#[]⟩,.int .u64 0]).cells.size]!) (λv hv=>by rw[List.mem_singleton.1 hv];rfl) (by simp)
  exact h
end Go.Proofs.YtemhlkdingkjnaaGreatDoor
