/-
  The plain laws.
-/
import Derived.Test.YtdlkpmohjhjmfaaGreatDoorP1
import Derived.Test.YtdlkpmohjhjmfaaGreatDoorF1
set_option linter.unusedVariables false
set_option linter.unusedSimpArgs false
namespace Go.Proofs.YtdlkpmohjhjmfaaGreatDoor
open Go Go.Va Go.Proofs
abbrev actT (v:Int):Act:=(3,(qZ,(v,(0,([],())))))
abbrev actN (v:Int):Act:=(7,(qZ,(0,(v,([],())))))
noncomputable def numS (w0:ByteArray)(r:List ByteArray):Act×Bool:=
 if numsOk r=true then
  if eqS w0 yfB=true then crashS (numsV r)
  else if r.length=1 then
   if eqS w0 clockW=true then (actT ((numsV r).getD 0 0),true)
   else if eqS w0 failW=true then (actN ((numsV r).getD 0 0),true)
   else (actZ 0,false)
  else (actZ 0,false)
 else (actZ 0,false)
theorem numsV_len (r:List ByteArray):(numsV r).length=r.length:=by unfold numsV;rw[List.length_map]
theorem read_J2 {n:Nat}(hn2:n≤536870912){w0:ByteArray}{r:List ByteArray}(hlen:r.length<n)(hs:∀ s∈r,s.size≤281474976710656)(b2:Act) :
  ybg.J2 n (w0::r,b2,())=some ((numS w0 r).1,(numS w0 r).2,()):=by
 have hl:(((w0::r).length:Nat):Int)=(r.length:Int)+1:=by rw[List.length_cons];omega
 have ht:((w0::r).take ((((w0::r).length:Nat):Int)).toNat).drop 1=r:=by rw[Int.toNat_natCast,List.take_length];rfl
 have hg:List.getD (w0::r) 0 (⟨#[]⟩:ByteArray)=w0:=rfl
 have h0:0≤(0:Int)∧(0:Int)<(((w0::r).length:Nat):Int):=⟨by decide,by omega⟩
 have hv:=numsV_len r
 rw[ybg.e2,yar ⟨by omega,by omega⟩,yar ⟨by decide,by omega⟩,ht,script_numbers hn2 hlen hs]
 unfold numS
 by_cases h1:numsOk r=true
 ·rw [if_pos h1,if_pos h1,yab]
  try dsimp only
  rw[Bool.not_true,yaj,yar h0,hg,yaJ]
  cases h2:eqS w0 yfB
  ·rw[yaj,if_neg (by decide),yaJ]
   by_cases h3:r.length=1
   ·rw[show (((numsV r).length:Nat):Int)=1 by omega,show ((1:Int) != 1)=false from rfl,yaj,if_pos h3,yar h0,yaJ]
    cases h4:eqS w0 clockW
    ·rw[yaj,if_neg (by decide),yar h0,yaJ]
     cases h5:eqS w0 failW
     ·rw[yaj,if_neg (by decide)]
     ·rw[yaq,if_pos rfl,yar ⟨by decide,by decide⟩]
    ·rw[yaq,if_pos rfl,yar ⟨by decide,by decide⟩]
   ·rw[show ((((numsV r).length:Nat):Int) != 1)=true by simp;omega,yaq,if_neg h3]
  ·rw[yaq,if_pos rfl,script_crash hn2 (by omega),yab]
 ·rw[if_neg h1,if_neg h1,yab]
  rfl
theorem read_word {n:Nat}{w0:ByteArray}{r:List ByteArray}(h:(smGet wordsL w0).2=true):ybg.f n (w0::r)=some (actZ (smGet wordsL w0).1,decide (r.length=0),()):=by
 have hl:(((w0::r).length:Nat):Int)=(r.length:Int)+1:=by rw[List.length_cons];omega
 rw[ybg.e0]
 unfold ydS.f
 rw[yab,yar ⟨by decide,by omega⟩]
 change bIf (smGet wordsL w0).2 (some (actZ (smGet wordsL w0).1,hide _,())) _=_
 rw[h,yaq,yaJ]
 congr 3
 by_cases h0:r.length=0
 ·rw[decide_eq_true h0,beq_iff_eq];omega
 ·rw[decide_eq_false h0,beq_eq_false_iff_ne];omega
theorem read_ask {n:Nat}{x:ByteArray}{b:Act}{ok:Bool}(h:ydx.f n x=some (b,ok,())):ybg.f n [askW,x]=some (b,ok,()):=by
 have h0:0≤(0:Int)∧(0:Int)<((([askW,x]:List ByteArray).length:Nat):Int):=⟨by decide,show (0:Int)<2 by decide⟩
 have h1:0≤(1:Int)∧(1:Int)<((([askW,x]:List ByteArray).length:Nat):Int):=⟨by decide,show (1:Int)<2 by decide⟩
 rw[ybg.e0]
 unfold ydS.f
 rw[yab,yar h0]
 change bIf (smGet wordsL askW).2 _ _=_
 rw[show (smGet wordsL askW).2=false by decide +kernel,yaj,yar h0,yaJ]
 change bIf (eqS askW askW) _ _=_
 rw[ybF,yaq,yaJ]
 change ybg.J1 n ([askW,x],true,actZ 0,())=_
 rw[ybg.e1,yaq,yar h1]
 change (bnd (ydx.f n x) _)=_
 rw[h,yab]
theorem read_num {n:Nat}(hn2:n≤536870912){w0:ByteArray}{r:List ByteArray}(hlen:r.length<n)(hs:∀ s∈r,s.size≤281474976710656)
  (h1:(smGet wordsL w0).2=false) (h2:eqS w0 askW=false∨r.length≠1):ybg.f n (w0::r)=some ((numS w0 r).1,(numS w0 r).2,()):=by
 have hl:(((w0::r).length:Nat):Int)=(r.length:Int)+1:=by rw[List.length_cons];omega
 have h0:0≤(0:Int)∧(0:Int)<(((w0::r).length:Nat):Int):=⟨by decide,by omega⟩
 rw[ybg.e0]
 unfold ydS.f
 rw[yab,yar h0]
 change bIf (smGet wordsL w0).2 _ _=_
 rw[h1,yaj,yar h0,yaJ]
 have key:ybg.J1 n (w0::r,false,actZ 0,())=some ((numS w0 r).1,(numS w0 r).2,()):=by
  rw[ybg.e1,yaj]
  exact read_J2 hn2 hlen hs _
 change bIf (eqS w0 askW) _ _=_
 cases h3:eqS w0 askW
 ·rw[yaj];exact key
 ·rw[yaq,yaJ]
  have h4:r.length≠1:=by
   rcases h2 with h2 | h2
   ·rw[h3]at h2;exact nomatch h2
   ·exact h2
  rw[show ((((w0::r).length:Nat):Int)==2)=false from beq_eq_false_iff_ne.2 (by omega)]
  exact key
theorem word_cases {s:ByteArray}(h:(smGet wordsL s).2=true):∃ k,(k=1∨k=4∨k=5∨k=6)∧(smGet wordsL s).1=k∧s=wordB k:=by
 unfold wordsL at h ⊢
 unfold smGet at h ⊢
 by_cases h1:eqS s ⟨#[111,112,101,110]⟩=true
 ·rw[if_pos h1];exact⟨1,.inl rfl,rfl,yeH h1⟩
 rw[if_neg h1]at h ⊢
 unfold smGet at h ⊢
 by_cases h2:eqS s ⟨#[115,119,101,101,112]⟩=true
 ·rw[if_pos h2];exact⟨4,.inr (.inl rfl),rfl,yeH h2⟩
 rw[if_neg h2]at h ⊢
 unfold smGet at h ⊢
 by_cases h3:eqS s ⟨#[99,111,108,108,101,99,116]⟩=true
 ·rw[if_pos h3];exact⟨5,.inr (.inr (.inl rfl)),rfl,yeH h3⟩
 rw[if_neg h3]at h ⊢
 unfold smGet at h ⊢
 by_cases h4:eqS s ⟨#[99,104,101,99,107]⟩=true
 ·rw[if_pos h4];exact⟨6,.inr (.inr (.inr rfl)),rfl,yeH h4⟩
 rw[if_neg h4]at h
 unfold smGet at h
 exact nomatch h
theorem bdQ_z {n:Nat}(h:300≤n):bdQ n qZ:=by
 have h0:0<n:=by omega
 exact mkQ (by change 0<n;omega) (by change 0<n;omega) h0 U64_0 ⟨h0,ydZ⟩ ⟨h0,by intro t ht;exact nomatch ht⟩ I64_0 ⟨h0,by intro t ht;exact nomatch ht⟩ ⟨h0,by intro t ht;exact nomatch ht⟩ ⟨Nat.zero_le 16,by intro t ht;exact nomatch ht⟩ h0 h0 h0 h0 h0 U64_0 h
theorem AI_of {n:Nat}(h:300≤n){k:Int}{q:Q}{t m:Int}{l:List Int}(hq:bdQ n q)(ht:I64 t)(hm:I64 m)(hl:l.length+2<n)(hk:∀ x∈l,I64 x):AI n (k,(q,(t,(m,(l,()))))):=⟨hq,ht,hm,hl,hk⟩
theorem nums_back {r:List ByteArray}(h:numsOk r=true):r=(numsV r).map itoaB∧∀ x∈numsV r,I64 x:=by
 unfold numsOk at h
 rw[List.all_eq_true]at h
 unfold numsV
 refine⟨?_,λx hx => ?_⟩
 ·rw[List.map_map]
  conv=>lhs;rw[← List.map_id r]
  exact List.map_congr_left λs hs=>((numB_back (h s hs)).1).symm
 ·obtain⟨s,hs,rfl⟩:=List.mem_map.1 hx
  exact (numB_back (h s hs)).2
theorem bare0 (k:Int):bareB (k,(qZ,(0,(0,([],())))))=true:=by
 unfold bareB
 rw[show sameQ qZ qZ=true from sameQ_z]
 rfl
theorem read_any {n:Nat} (hn:30000≤n) (hn2:n≤536870912) {w0:ByteArray} {r:List ByteArray} (hlen:r.length<n) (hs:∀ s∈w0::r,s.size<n) :
  ∃ b ok,ybg.f n (w0::r)=some (b,ok,())∧(ok=true→AI n b∧linS b=(w0::r,true)):=by
 cases h1:(smGet wordsL w0).2
 ·by_cases h2:eqS w0 askW=true∧r.length=1
  ·obtain⟨h2,h3⟩:=h2
   obtain rfl:=yeH h2
   obtain⟨x,rfl⟩:=List.length_eq_one_iff.1 h3
   obtain⟨b,ok,h4,h5⟩:=ask_any hn hn2 x (hs x (by simp))
   refine⟨b,ok,read_ask h4,λho => ?_⟩
   obtain⟨g1,g2,g3,g4,g5⟩:=h5 ho
   obtain⟨k,q,t⟩:=b
   dsimp only at g1 g2 g3 g4 g5
   subst g1 g2
   refine⟨AI_of (by omega) g3 I64_0 I64_0 (by change 0+2<n;omega) (λx hx=>nomatch hx),?_⟩
   unfold linS
   rw[if_pos rfl]
   try dsimp only
   rw[g4,bare0 2,← g5]
   rfl
  ·have h3:eqS w0 askW=false∨r.length≠1:=by
    cases h:eqS w0 askW
    ·exact .inl rfl
    ·exact .inr λe=>h2 ⟨h,e⟩
   have hr:∀ s∈r,s.size≤281474976710656:=λs h=>by have:=hs s (List.mem_cons_of_mem _ h);omega
   refine⟨_,_,read_num hn2 hlen hr h1 h3,λho => ?_⟩
   unfold numS at ho ⊢
   have hv:=numsV_len r
   by_cases g1:numsOk r=true
   ·obtain⟨i1,i2⟩:=nums_back g1
    rw[if_pos g1]at ho ⊢
    by_cases g2:eqS w0 yfB=true
    ·rw [if_pos g2]at ho ⊢
     obtain rfl:=yeH g2
     unfold crashS at ho ⊢
     by_cases g3:(numsV r).length<2∨(numsV r).getD 1 0<0∨(numsV r).getD 1 0>255
     ·rw[if_pos g3]at ho;exact nomatch ho
     ·rw[if_neg g3]
      obtain⟨x,y,l,e⟩:∃ x y l,numsV r=x::y::l:=by
       cases h:numsV r with
       | nil=>rw[h]at g3;exact absurd (.inl (by decide)) g3
       | cons x l=>cases l with
        | nil=>rw[h]at g3;exact absurd (.inl (show 1<2 by decide)) g3
        | cons y l=>exact⟨x,y,l,rfl⟩
      rw[e]at g3 i1 i2 hv ⊢
      have k1:¬ y<0:=λh=>g3 (.inr (.inl h))
      have k2:¬ y>255:=λh=>g3 (.inr (.inr h))
      rw[List.length_cons,List.length_cons]at hv
      refine⟨AI_of (by omega) (bdQ_z (by omega)) (i2 y (by simp)) (i2 x (by simp)) (by change l.length+2<n;omega) (λz hz=>i2 z (List.mem_cons_of_mem _ (List.mem_cons_of_mem _ hz))),?_⟩
      unfold linS
      rw[if_neg (show ¬ (8:Int)=2 by decide),if_neg (show ¬ (8:Int)=3 by decide),if_neg (show ¬ (8:Int)=7 by decide),if_pos rfl]
      change (yfB::itoaB x::itoaB y::l.map itoaB,bareB (8,(qZ,(0,(0,([],())))))&&(decide (y≥0)&&decide (y≤255)))=_
      rw[bare0 8,decide_eq_true (by omega),decide_eq_true (by omega),i1]
      rfl
    ·rw [if_neg g2]at ho ⊢
     by_cases g3:r.length=1
     ·rw[if_pos g3]at ho ⊢
      obtain⟨x,e⟩:=List.length_eq_one_iff.1 (hv.trans g3)
      rw[e]at i1 i2 ho ⊢
      by_cases g4:eqS w0 clockW=true
      ·rw[if_pos g4]
       obtain rfl:=yeH g4
       refine⟨AI_of (by omega) (bdQ_z (by omega)) (i2 x (by simp)) I64_0 (by change 0+2<n;omega) (λz hz=>nomatch hz),?_⟩
       unfold linS
       rw[if_neg (show ¬ (3:Int)=2 by decide),if_pos rfl]
       change ([clockW,itoaB x],bareB (3,(qZ,(0,(0,([],()))))))=_
       rw[bare0 3,i1]
       rfl
      ·rw[if_neg g4]at ho ⊢
       by_cases g5:eqS w0 failW=true
       ·rw[if_pos g5]
        obtain rfl:=yeH g5
        refine⟨AI_of (by omega) (bdQ_z (by omega)) I64_0 (i2 x (by simp)) (by change 0+2<n;omega) (λz hz=>nomatch hz),?_⟩
        unfold linS
        rw[if_neg (show ¬ (7:Int)=2 by decide),if_neg (show ¬ (7:Int)=3 by decide),if_pos rfl]
        change ([failW,itoaB x],bareB (7,(qZ,(0,(0,([],()))))))=_
        rw[bare0 7,i1]
        rfl
       ·rw[if_neg g5]at ho;exact nomatch ho
     ·rw[if_neg g3]at ho;exact nomatch ho
   ·rw[if_neg g1]at ho;exact nomatch ho
 ·refine⟨_,_,read_word h1,λho => ?_⟩
  have h0:r=[]:=List.eq_nil_of_length_eq_zero (of_decide_eq_true ho)
  subst h0
  obtain⟨k,hk,e1,rfl⟩:=word_cases h1
  rw[e1]
  refine⟨AI_of (by omega) (bdQ_z (by omega)) I64_0 I64_0 (by change 0+2<n;omega) (λz hz=>nomatch hz),?_⟩
  unfold linS
  rcases hk with rfl | rfl | rfl | rfl <;>
  ·rw[if_neg (by decide),if_neg (by decide),if_neg (by decide),if_neg (by decide)]
   rw[bare0]
   exact congrArg (λx=>(_,x)) (by decide +kernel)
theorem act_any {n:Nat}(hn:30000≤n)(hn2:n≤536870912){s:ByteArray}(hs:s.size<n) :
  ybt.f n s=some (actZ 0,5,())∨∃ b,ybt.f n s=some (b,0,())∧AI n b∧(linS b).2=true∧joinT (linS b).1=s:=by
 have hsp:yb8.f s ⟨#[32]⟩=some (splitW s,()):=by
  unfold yb8.f
  rw[if_pos ⟨by omega,by decide⟩];rfl
 obtain⟨x,l,e⟩:=split_ne s
 have h1:=split_len s
 have h2:=split_size s
 rw[e]at h1 h2
 rw[List.length_cons]at h1
 obtain⟨b,ok,h3,h4⟩:=read_any hn hn2 (w0:=x) (r:=l) (by omega) (λw hw=>by have:=h2 w hw;omega)
 rw[ybt.e0,hsp,yab]
 try dsimp only
 rw[e,h3,yab]
 cases ok
 ·exact .inl rfl
 ·obtain⟨h5,h6⟩:=h4 rfl
  refine .inr ⟨b,rfl,h5,by rw[h6],?_⟩
  rw[h6,← e,split_join]
end Go.Proofs.YtdlkpmohjhjmfaaGreatDoor
namespace Go.Proofs.YtdlkpmohjhjmfaaGreatDoor
open Go Go.Va Go.Proofs
theorem act_of {n:Nat}{x:ByteArray}{l:List ByteArray}{b:Act}(h:∀ w∈x::l,∀ c∈w.data.toList,c≠32)(hs:(joinT (x::l)).size<4294967281)(hr:ybg.f n (x::l)=some (b,true,())) :
  ybt.f n (joinT (x::l))=some (b,0,()):=by
 have hsp:yb8.f (joinT (x::l)) ⟨#[32]⟩=some (x::l,()):=by
  unfold yb8.f
  rw[if_pos ⟨hs,by decide⟩]
  exact congrArg (λx=>some (x,())) (split_words h)
 rw[ybt.e0,hsp,yab]
 try dsimp only
 rw[hr,yab]
 rfl
theorem hex_word {q:Q}:∀ c∈(xB++yaT (hexL (askS q).1)).data.toList,c≠32:=by
 intro c hc
 rw[ByteArray.data_append,Array.toList_append]at hc
 rcases List.mem_append.1 hc with hc | hc
 ·have hc:c∈[(120:UInt8)]:=hc
  rw[List.mem_singleton.1 hc];decide
 ·intro e
  subst e
  have hB:BY (hexL (askS q).1):=by
   intro x hx
   obtain⟨y,_,hy⟩:=List.mem_flatMap.1 hx
   have hr:∀ i,0≤bt H16 i∧bt H16 i≤255:=λi=>by
    unfold bt
    have:=(H16.data.toList.getD i.toNat 0).toNat_lt
    omega
   simp only[hex2,List.mem_cons,List.mem_nil_iff,or_false]at hy
   rcases hy with rfl | rfl<;>exact hr _
  have h32:(32:Int)∈ybN (yaT (hexL (askS q).1)):=List.mem_map.2 ⟨32,hc,rfl⟩
  rw[yen hB]at h32
  obtain⟨y,hy1,hy⟩:=List.mem_flatMap.1 h32
  have hby:0≤y∧y≤255:=by
   have:BY (askS q).1:=by
    unfold askS
    split
    ·exact BY_Q q
    ·exact ydZ
   exact this y hy1
  have hn:∀ a:Fin 16,bt H16 ((a:Nat):Int)≠32:=by decide +kernel
  have hn':∀ a:Int,0≤a→a<16→bt H16 a≠32:=λa h0 h1=>by
   have:=hn ⟨a.toNat,by omega⟩
   simp only[show ((a.toNat:Nat):Int)=a by omega]at this
   exact this
  simp only[hex2,List.mem_cons,List.mem_nil_iff,or_false]at hy
  rcases hy with hy | hy
  ·exact hn' (y/16) (by omega) (by omega) hy.symm
  ·exact hn' (y%16) (by omega) (by omega) hy.symm
theorem nums_itoa {l:List Int}(h:∀ x∈l,I64 x):numsOk (l.map itoaB)=true∧numsV (l.map itoaB)=l:=by
 unfold numsOk numsV
 rw[List.all_eq_true,List.map_map]
 refine⟨λs hs => ?_,?_⟩
 ·obtain⟨x,hx,rfl⟩:=List.mem_map.1 hs
  rw[numB_itoa (h x hx)]
 ·conv=>rhs;rw[← List.map_id l]
  exact List.map_congr_left λx hx=>by change (numB (itoaB x)).1=x;rw[numB_itoa (h x hx)]
theorem lit_ns (s:ByteArray)(h:(s.data.toList.all λc=>c != 32)=true):∀ c∈s.data.toList,c≠32:=λc hc e=>by
 have:=List.all_eq_true.1 h c hc
 rw[e]at this
 exact absurd this (by decide)
theorem act_back {n:Nat}(hn:300000≤n)(hn2:n≤1048576*4){a:Act}(ha:AI n a)(h:(linS a).2=true):∃ b,ybt.f n (joinT (linS a).1)=some (b,0,())∧sameA a b=true:=by
 have hlen:=ha.len
 unfold linS at h ⊢
 by_cases h2:a.1=2
 ·rw[if_pos h2]at h ⊢
  rw[Bool.and_eq_true]at h
  obtain⟨g1,g2⟩:=h
  have g1:(askS a.2.1).2=0:=beq_iff_eq.1 g1
  obtain⟨_,i1,i2,i3⟩:=bareB_is g2
  refine⟨_,act_of ?_ ?_ (read_ask (ask_back (by omega) (by omega) ha.q g1)),sameA_of h2 i1 i2 (sameQ_refl _) i3⟩
  ·intro w hw
   simp only[List.mem_cons,List.mem_nil_iff,or_false]at hw
   rcases hw with rfl | rfl
   ·exact lit_ns _ (by decide +kernel)
   ·exact hex_word
  ·have hl:=(ask_BB (n:=30000) (by omega) a.2.1).len
   have:=yfo (x:=askW) (l:=[xB++yaT (hexL (askS a.2.1).1)]) (c:=60000) (λy hy=>by
    obtain rfl:=List.mem_singleton.1 hy
    rw[ByteArray.size_append,yah,hexL_len];change 1+_≤_;omega)
   change _≤3+1*(60000+1) at this
   omega
 rw[if_neg h2]at h ⊢
 by_cases h3:a.1=3
 ·rw[if_pos h3]at h ⊢
  obtain⟨i0,i1,i2,i3⟩:=bareB_is h
  obtain⟨j1,j2⟩:=nums_itoa (l:=[a.2.2.1]) (λx hx=>by obtain rfl:=List.mem_singleton.1 hx;exact ha.t)
  have hr:=read_num (n:=n) (by omega) (w0:=clockW) (r:=[a.2.2.1].map itoaB) (by change 1<n;omega) (λs hs=>by
   have hs:s∈[itoaB a.2.2.1]:=hs
   obtain rfl:=List.mem_singleton.1 hs;have:=ycA ha.t;omega) (by decide +kernel) (.inl (by decide +kernel))
  have e:numS clockW ([a.2.2.1].map itoaB)=(actT a.2.2.1,true):=by
   unfold numS
   rw[if_pos j1,if_neg (by decide +kernel),if_pos (by rfl),if_pos (by decide +kernel),j2];rfl
  rw[e]at hr
  refine⟨_,act_of ?_ ?_ hr,sameA_of h3 rfl i2 i0 i3⟩
  ·intro w hw
   simp only[List.mem_cons,List.mem_nil_iff,or_false]at hw
   rcases hw with rfl | rfl
   ·exact lit_ns _ (by decide +kernel)
   ·exact itoa_ns _
  ·have:=yfo (x:=clockW) (l:=[itoaB a.2.2.1]) (c:=21) (λy hy=>by
    obtain rfl:=List.mem_singleton.1 hy;exact ycA ha.t)
   change _≤5+1*(21+1) at this
   change (joinT [clockW,itoaB a.2.2.1]).size<_
   omega
 rw[if_neg h3]at h ⊢
 by_cases h7:a.1=7
 ·rw[if_pos h7]at h ⊢
  obtain⟨i0,i1,i2,i3⟩:=bareB_is h
  obtain⟨j1,j2⟩:=nums_itoa (l:=[a.2.2.2.1]) (λx hx=>by obtain rfl:=List.mem_singleton.1 hx;exact ha.m)
  have hr:=read_num (n:=n) (by omega) (w0:=failW) (r:=[a.2.2.2.1].map itoaB) (by change 1<n;omega) (λs hs=>by
   have hs:s∈[itoaB a.2.2.2.1]:=hs
   obtain rfl:=List.mem_singleton.1 hs;have:=ycA ha.m;omega) (by decide +kernel) (.inl (by decide +kernel))
  have e:numS failW ([a.2.2.2.1].map itoaB)=(actN a.2.2.2.1,true):=by
   unfold numS
   rw[if_pos j1,if_neg (by decide +kernel),if_pos (by rfl),if_neg (by decide +kernel),if_pos (by decide +kernel),j2];rfl
  rw[e]at hr
  refine⟨_,act_of ?_ ?_ hr,sameA_of h7 i1 rfl i0 i3⟩
  ·intro w hw
   simp only[List.mem_cons,List.mem_nil_iff,or_false]at hw
   rcases hw with rfl | rfl
   ·exact lit_ns _ (by decide +kernel)
   ·exact itoa_ns _
  ·have:=yfo (x:=failW) (l:=[itoaB a.2.2.2.1]) (c:=21) (λy hy=>by
    obtain rfl:=List.mem_singleton.1 hy;exact ycA ha.m)
   change _≤4+1*(21+1) at this
   change (joinT [failW,itoaB a.2.2.2.1]).size<_
   omega
 rw[if_neg h7]at h ⊢
 by_cases h8:a.1=8
 ·rw[if_pos h8]at h ⊢
  rw[Bool.and_eq_true,Bool.and_eq_true]at h
  obtain⟨g1,g2,g3⟩:=h
  have g2:=of_decide_eq_true g2
  have g3:=of_decide_eq_true g3
  obtain⟨i0,_,_,_⟩:=bareB_is g1
  obtain⟨j1,j2⟩:=nums_itoa (l:=a.2.2.2.1::a.2.2.1::a.2.2.2.2.1) (λx hx=>by
   rcases List.mem_cons.1 hx with rfl | hx
   ·exact ha.m
   rcases List.mem_cons.1 hx with rfl | hx
   ·exact ha.t
   exact ha.ks x hx)
  have hr:=read_num (n:=n) (by omega) (w0:=yfB) (r:=(a.2.2.2.1::a.2.2.1::a.2.2.2.2.1).map itoaB) (by rw[List.length_map,List.length_cons,List.length_cons];omega) (λs hs=>by
   obtain⟨x,hx,rfl⟩:=List.mem_map.1 hs
   have:(itoaB x).size≤21:=by
    rcases List.mem_cons.1 hx with rfl | hx
    ·exact ycA ha.m
    rcases List.mem_cons.1 hx with rfl | hx
    ·exact ycA ha.t
    exact ycA (ha.ks x hx)
   omega) (by decide +kernel) (.inl (by decide +kernel))
  have e:numS yfB ((a.2.2.2.1::a.2.2.1::a.2.2.2.2.1).map itoaB)=((8,(qZ,(a.2.2.1,(a.2.2.2.1,(a.2.2.2.2.1,()))))),true):=by
   unfold numS
   rw[if_pos j1,if_pos (by decide +kernel),j2]
   unfold crashS
   rw[if_neg (by
    rintro (g | g | g)
    ·rw[List.length_cons,List.length_cons]at g;omega
    ·have g:a.2.2.1<0:=g;omega
    ·have g:a.2.2.1>255:=g;omega)]
   rfl
  rw[e]at hr
  refine⟨_,act_of ?_ ?_ hr,sameA_of h8 rfl rfl i0 rfl⟩
  ·intro w hw
   rcases List.mem_cons.1 hw with rfl | hw
   ·exact lit_ns _ (by decide +kernel)
   ·obtain⟨x,_,rfl⟩:=List.mem_map.1 (show w∈(a.2.2.2.1::a.2.2.1::a.2.2.2.2.1).map itoaB from hw)
    exact itoa_ns _
  ·have:=yfo (x:=yfB) (l:=(a.2.2.2.1::a.2.2.1::a.2.2.2.2.1).map itoaB) (c:=21) (λy hy=>by
    obtain⟨x,hx,rfl⟩:=List.mem_map.1 hy
    rcases List.mem_cons.1 hx with rfl | hx
    ·exact ycA ha.m
    rcases List.mem_cons.1 hx with rfl | hx
    ·exact ycA ha.t
    exact ycA (ha.ks x hx))
   rw[List.length_map,List.length_cons,List.length_cons]at this
   have h5:yfB.size=5:=rfl
   change (joinT (yfB::(a.2.2.2.1::a.2.2.1::a.2.2.2.2.1).map itoaB)).size<_
   omega
 rw[if_neg h8]at h ⊢
 rw[Bool.and_eq_true]at h
 obtain⟨g1,g2⟩:=h
 obtain⟨i0,i1,i2,i3⟩:=bareB_is g2
 have hk:a.1=1∨a.1=4∨a.1=5∨a.1=6:=by
  by_cases k1:a.1=1
  ·exact .inl k1
  by_cases k4:a.1=4
  ·exact .inr (.inl k4)
  by_cases k5:a.1=5
  ·exact .inr (.inr (.inl k5))
  by_cases k6:a.1=6
  ·exact .inr (.inr (.inr k6))
  unfold wordB at g1
  rw[if_neg k1,if_neg k4,if_neg k5,if_neg k6,ybF]at g1
  exact nomatch g1
 have hw:(smGet wordsL (wordB a.1))=(a.1,true):=by rcases hk with e | e | e | e<;>(rw[e];decide +kernel)
 have hr:=read_word (n:=n) (w0:=wordB a.1) (r:=[]) (by rw[hw])
 rw[hw]at hr
 refine⟨_,act_of ?_ ?_ hr,sameA_of rfl i1 i2 i0 i3⟩
 ·intro w hw
  obtain rfl:=List.mem_singleton.1 hw
  rcases hk with e | e | e | e<;>(rw[e];exact lit_ns _ (by decide +kernel))
 ·rw[ye4]
  rcases hk with e | e | e | e<;>(rw[e];decide +kernel)
end Go.Proofs.YtdlkpmohjhjmfaaGreatDoor
namespace Go.Proofs.YtdlkpmohjhjmfaaGreatDoor
open Go Go.Va Go.Proofs
def fi:List UInt8→Nat
 | []=>0
 | x::r=>if x=10 then 0 else fi r+1
theorem fi_index:∀ l:List UInt8,(Lib.index l [10] = -1∧fi l=l.length)∨Lib.index l [10]=((fi l:Nat):Int)
 | [] => .inl ⟨rfl,rfl⟩
 | x::r=>by
  unfold fi Lib.index
  by_cases h:x=10
  ·subst h
   exact .inr (by rw[if_pos rfl];simp[List.isPrefixOf])
  ·have hp:([10]:List UInt8).isPrefixOf (x::r)=false:=by simp[List.isPrefixOf,Ne.symm h]
   rw[hp,if_neg (by decide),if_neg h]
   rcases fi_index r with ⟨h1,h2⟩ | h1
   ·rw[h1];exact .inl ⟨rfl,by rw[h2,List.length_cons]⟩
   ·rw[h1]
    refine .inr ?_
    rw[show (((fi r:Nat):Int) == -1)=false from beq_eq_false_iff_ne.2 (by omega),if_neg (by decide)]
    omega
theorem cut_fi (l:List UInt8):(Lib.cut l [10]).1=l.take (fi l)∧(Lib.cut l [10]).2.1=l.drop (fi l+1):=by
 unfold Lib.cut
 rcases fi_index l with ⟨h1,h2⟩ | h1
 ·rw[h1,if_neg (by decide),h2,List.take_length,List.drop_eq_nil_of_le (by omega)];exact⟨rfl,rfl⟩
 ·rw[h1,if_pos (by omega),Int.toNat_natCast];exact⟨rfl,rfl⟩
def lnsL:Nat→List UInt8→List (List UInt8)
 | 0,_=>[]
 | m+1,l=>if l=[] then [] else l.take (fi l)::lnsL m (l.drop (fi l+1))
noncomputable def actV (n:Nat)(s:ByteArray):Act×Int:=match ybt.f n s with
 | some (b,e,_)=>(b,e)
 | none=>(actZ 0,5)
theorem actV_is {n:Nat}(hn:30000≤n)(hn2:n≤536870912){s:ByteArray}(hs:s.size<n):ybt.f n s=some ((actV n s).1,(actV n s).2,())∧((actV n s).2=5∨((actV n s).2=0∧AI n (actV n s).1)):=by
 unfold actV
 rcases act_any hn hn2 hs with h | ⟨b,h1,h2,_⟩
 ·rw[h];exact⟨rfl,.inl rfl⟩
 ·rw[h1];exact⟨rfl,.inr ⟨rfl,h2⟩⟩
noncomputable def actsS (n:Nat):List Act→List (List UInt8)→List Act×Int×Int
 | out,[]=>if out.length>4096 then ([],0,9) else (out,0,0)
 | out,x::ls=>if (actV n ⟨x.toArray⟩).2=0 then actsS n (out++[(actV n ⟨x.toArray⟩).1]) ls else ([],(out.length:Int)+1,5)
theorem acts_J {n:Nat}(hn:30000≤n)(hn2:n≤536870912):∀ (m:Nat) (r:ByteArray) (out:List Act),r.size<m→r.size<n→out.length+r.size≤65536 →
  ybx.J1 n m (r,out,(out.length:Int)+1,())=some ((actsS n out (lnsL m r.data.toList)).1,(actsS n out (lnsL m r.data.toList)).2.1,(actsS n out (lnsL m r.data.toList)).2.2,())
 | 0,r,out,h,_,_=>by omega
 | m + 1,r,out,h,hrn,hb=>by
  rw[ybx.e1,yaJ]
  unfold lnsL
  by_cases h0:r.data.toList=[]
  ·have hr:r=⟨#[]⟩:=data_inj h0
   rw[hr,ybF,Bool.not_true,yaj,ybx.e2,yaJ,if_pos rfl]
   unfold actsS
   by_cases h1:out.length>4096
   ·rw[decide_eq_true (by omega),yaq,if_pos h1]
   ·rw[decide_eq_false (by omega),yaj,if_neg h1]
  ·have hne:eqS r ⟨#[]⟩=false:=by
    cases he:eqS r ⟨#[]⟩
    ·rfl
    ·exact absurd (by rw[yeH he]) h0
   have hsz:=yep r
   have hpos:0<r.data.toList.length:=List.length_pos_iff.2 h0
   have hcut:ydU.f r ⟨#[10]⟩=some (⟨(r.data.toList.take (fi r.data.toList)).toArray⟩,⟨(r.data.toList.drop (fi r.data.toList+1)).toArray⟩,(Lib.cut r.data.toList [10]).2.2,()):=by
    unfold ydU.f
    obtain⟨c1,c2⟩:=cut_fi r.data.toList
    rw[if_pos (by omega),show (⟨#[10]⟩:ByteArray).data.toList=[10] from rfl,c1,c2]
   rw[hne,Bool.not_false,yaq,hcut,yab,if_neg h0]
   try dsimp only
   have hxs:(⟨(r.data.toList.take (fi r.data.toList)).toArray⟩:ByteArray).size<n:=by
    rw[yep]
    change (r.data.toList.take (fi r.data.toList)).length<n
    rw[List.length_take];omega
   obtain⟨a1,a2⟩:=actV_is hn hn2 hxs
   rw[a1,yab,yaJ]
   unfold actsS
   rcases a2 with a2 | ⟨a2,a3⟩
   ·try dsimp only
    rw[a2,show ((5:Int) != 0)=true from rfl,yaq,if_neg (by decide)]
   ·try dsimp only
    rw[a2,show ((0:Int) != 0)=false from rfl,yaj,if_pos rfl,yar (by omega)]
    have hl:(⟨(r.data.toList.drop (fi r.data.toList+1)).toArray⟩:ByteArray).size<r.size:=by
     rw[yep,hsz]
     change (r.data.toList.drop (fi r.data.toList+1)).length<_
     rw[List.length_drop];omega
    have ih:=acts_J hn hn2 m ⟨(r.data.toList.drop (fi r.data.toList+1)).toArray⟩ (out++[(actV n ⟨(r.data.toList.take (fi r.data.toList)).toArray⟩).1]) (by omega) (by omega) (by rw[List.length_append,List.length_singleton];omega)
    rw[yb6 (by omega)]
    rw[List.length_append,List.length_singleton,show (((out.length+1:Nat):Int))+1=(out.length:Int)+1+1 by omega]at ih
    exact ih
end Go.Proofs.YtdlkpmohjhjmfaaGreatDoor
namespace Go.Proofs.YtdlkpmohjhjmfaaGreatDoor
open Go Go.Va Go.Proofs Go.ChangeShapes Go.WideShapes Go.ChangeAt Go.RowKit
theorem vol_Q (e:Q):vol yan e=1+(e.2.1.size+1+(e.2.2.1.size+1+(e.2.2.2.1.size+1+(1+(((e.2.2.2.2.2.1.map (vol (.int .u8))).sum+1)+(((e.2.2.2.2.2.2.1.map (vol yaw)).sum+1)+(vol yaO e.2.2.2.2.2.2.2.1+(1+(vol yaA e.2.2.2.2.2.2.2.2.2.1+(((e.2.2.2.2.2.2.2.2.2.2.1.map (vol yaC)).sum+1)+(((e.2.2.2.2.2.2.2.2.2.2.2.1.map (vol yaD)).sum+1)+(1+(((e.2.2.2.2.2.2.2.2.2.2.2.2.2.1.map (vol (.int .i64))).sum+1)+(e.2.2.2.2.2.2.2.2.2.2.2.2.2.2.1.size+1+(e.2.2.2.2.2.2.2.2.2.2.2.2.2.2.2.1.size+1+(e.2.2.2.2.2.2.2.2.2.2.2.2.2.2.2.2.1.size+1+((e.2.2.2.2.2.2.2.2.2.2.2.2.2.2.2.2.2.1.1.size+1+(e.2.2.2.2.2.2.2.2.2.2.2.2.2.2.2.2.2.1.2.1.size+1+1))+(1+0)))))))))))))))))):=rfl
theorem Wf_Q {e:Q}(hw:Wf yan e):Wf (.int .i64) e.1∧Wf .str e.2.1∧Wf .str e.2.2.1∧Wf .str e.2.2.2.1∧Wf (.int .u64) e.2.2.2.2.1∧Wf (.slice (.int .u8)) e.2.2.2.2.2.1∧Wf (.slice yaw) e.2.2.2.2.2.2.1∧Wf yaO e.2.2.2.2.2.2.2.1∧Wf .bool e.2.2.2.2.2.2.2.2.1∧Wf yaA e.2.2.2.2.2.2.2.2.2.1∧Wf (.slice yaC) e.2.2.2.2.2.2.2.2.2.2.1∧Wf (.slice yaD) e.2.2.2.2.2.2.2.2.2.2.2.1∧Wf (.int .i64) e.2.2.2.2.2.2.2.2.2.2.2.2.1∧Wf (.slice (.int .i64)) e.2.2.2.2.2.2.2.2.2.2.2.2.2.1∧Wf .str e.2.2.2.2.2.2.2.2.2.2.2.2.2.2.1∧Wf .str e.2.2.2.2.2.2.2.2.2.2.2.2.2.2.2.1∧Wf .str e.2.2.2.2.2.2.2.2.2.2.2.2.2.2.2.2.1∧Wf ya0 e.2.2.2.2.2.2.2.2.2.2.2.2.2.2.2.2.2.1∧Wf (.int .i64) e.2.2.2.2.2.2.2.2.2.2.2.2.2.2.2.2.2.2.1∧True:=hw
theorem Q_B {n:Nat}{e:Q}(hi:0≤e.2.2.2.2.1)(hf:0≤e.2.2.2.2.2.2.2.2.2.2.2.2.2.2.2.2.2.1.2.2.1)(h:vol yan e<n):QB n e:=by
 rw[vol_Q]at h
 have p0:=h
 have c_k:=Nat.lt_of_le_of_lt (Nat.le_add_right _ _) p0
 have p1:=Nat.lt_of_le_of_lt (Nat.le_add_left _ _) p0
 have c_w:=Nat.lt_of_le_of_lt (Nat.le_add_right _ _) p1
 have p2:=Nat.lt_of_le_of_lt (Nat.le_add_left _ _) p1
 have c_b:=Nat.lt_of_le_of_lt (Nat.le_add_right _ _) p2
 have p3:=Nat.lt_of_le_of_lt (Nat.le_add_left _ _) p2
 have c_y:=Nat.lt_of_le_of_lt (Nat.le_add_right _ _) p3
 have p4:=Nat.lt_of_le_of_lt (Nat.le_add_left _ _) p3
 have c_i:=Nat.lt_of_le_of_lt (Nat.le_add_right _ _) p4
 have p5:=Nat.lt_of_le_of_lt (Nat.le_add_left _ _) p4
 have c_bo:=Nat.lt_of_le_of_lt (Nat.le_add_right _ _) p5
 have p6:=Nat.lt_of_le_of_lt (Nat.le_add_left _ _) p5
 have c_tg:=Nat.lt_of_le_of_lt (Nat.le_add_right _ _) p6
 have p7:=Nat.lt_of_le_of_lt (Nat.le_add_left _ _) p6
 have c_l:=Nat.lt_of_le_of_lt (Nat.le_add_right _ _) p7
 have p8:=Nat.lt_of_le_of_lt (Nat.le_add_left _ _) p7
 have c_q:=Nat.lt_of_le_of_lt (Nat.le_add_right _ _) p8
 have p9:=Nat.lt_of_le_of_lt (Nat.le_add_left _ _) p8
 have c_d:=Nat.lt_of_le_of_lt (Nat.le_add_right _ _) p9
 have p10:=Nat.lt_of_le_of_lt (Nat.le_add_left _ _) p9
 have c_r:=Nat.lt_of_le_of_lt (Nat.le_add_right _ _) p10
 have p11:=Nat.lt_of_le_of_lt (Nat.le_add_left _ _) p10
 have c_g:=Nat.lt_of_le_of_lt (Nat.le_add_right _ _) p11
 have p12:=Nat.lt_of_le_of_lt (Nat.le_add_left _ _) p11
 have c_nu:=Nat.lt_of_le_of_lt (Nat.le_add_right _ _) p12
 have p13:=Nat.lt_of_le_of_lt (Nat.le_add_left _ _) p12
 have c_ns:=Nat.lt_of_le_of_lt (Nat.le_add_right _ _) p13
 have p14:=Nat.lt_of_le_of_lt (Nat.le_add_left _ _) p13
 have c_af:=Nat.lt_of_le_of_lt (Nat.le_add_right _ _) p14
 have p15:=Nat.lt_of_le_of_lt (Nat.le_add_left _ _) p14
 have c_pr:=Nat.lt_of_le_of_lt (Nat.le_add_right _ _) p15
 have p16:=Nat.lt_of_le_of_lt (Nat.le_add_left _ _) p15
 have c_ma:=Nat.lt_of_le_of_lt (Nat.le_add_right _ _) p16
 have p17:=Nat.lt_of_le_of_lt (Nat.le_add_left _ _) p16
 have c_fr:=Nat.lt_of_le_of_lt (Nat.le_add_right _ _) p17
 have p18:=Nat.lt_of_le_of_lt (Nat.le_add_left _ _) p17
 have c_mx:=Nat.lt_of_le_of_lt (Nat.le_add_right _ _) p18
 have p19:=Nat.lt_of_le_of_lt (Nat.le_add_left _ _) p18
 clear h p0 p1 p2 p3 p4 p5 p6 p7 p8 p9 p10 p11 p12 p13 p14 p15 p16 p17 p18 p19
 have l1:=vol_len (e:=yaC) (l:=e.2.2.2.2.2.2.2.2.2.2.1) (λx _=>by rw[vol_Rule];omega)
 have l2:=vol_len (e:=yaD) (l:=e.2.2.2.2.2.2.2.2.2.2.2.1) (λx _=>by rw[vol_Grant];omega)
 have l3:=vol_len (e := .int .u8) (l:=e.2.2.2.2.2.1) (λx _=>Nat.le_refl 1)
 have l4:=vol_len (e := .int .i64) (l:=e.2.2.2.2.2.2.2.2.2.2.2.2.2.1) (λx _=>Nat.le_refl 1)
 have b1:=Nat.lt_of_succ_lt c_r
 have b2:=Nat.lt_of_succ_lt c_g
 exact⟨Nat.lt_of_succ_lt c_w,Nat.lt_of_succ_lt c_b,Nat.lt_of_succ_lt c_y,hi,Nat.lt_of_le_of_lt l3 (Nat.lt_of_succ_lt c_bo),Ts_of (Nat.lt_of_succ_lt c_tg),⟨Nat.lt_of_le_of_lt l1 b1,λx hx=>by
  have:=Nat.lt_of_le_of_lt (vol_mem (e:=yaC) hx) b1
  rw[vol_Rule]at this
  clear c_k c_w c_b c_y c_i c_bo c_tg c_l c_q c_d c_r c_g c_nu c_ns c_af c_pr c_ma c_fr c_mx l1 l2 l3 l4 b1 b2
  exact⟨by omega,Ts_of (by omega)⟩⟩,⟨Nat.lt_of_le_of_lt l2 b2,λx hx=>by
  have:=Nat.lt_of_le_of_lt (vol_mem (e:=yaD) hx) b2
  rw[vol_Grant]at this
  clear c_k c_w c_b c_y c_i c_bo c_tg c_l c_q c_d c_r c_g c_nu c_ns c_af c_pr c_ma c_fr c_mx l1 l2 l3 l4 b1 b2
  exact⟨by omega,by omega,by omega⟩⟩,Nat.lt_of_le_of_lt l4 (Nat.lt_of_succ_lt c_ns),Nat.lt_of_succ_lt c_af,Nat.lt_of_succ_lt c_pr,Nat.lt_of_succ_lt c_ma,Nat.lt_of_succ_lt (Nat.lt_of_le_of_lt (Nat.le_add_right _ _) c_fr),Nat.lt_of_succ_lt (Nat.lt_of_le_of_lt (Nat.le_add_right _ _) (Nat.lt_of_le_of_lt (Nat.le_add_left _ _) c_fr)),hf⟩
theorem Q_ofW {n:Nat}{e:Q}(hw:Wf yan e)(h:vol yan e<n):bdQ n e:=by
 obtain⟨w1,w2,w3,w4,w5,w6,w7,w8,w9,w10,w11,w12,w13,w14,w15,w16,w17,w18,w19,w20⟩:=Wf_Q hw
 exact⟨Q_B (u64_of w5).1 (u64_of w18.2.2.1).1 h,⟨u64_of w5,i64_of w8.2.1,u64_of w18.2.2.1,λx hx=>i64_of (w14.2 x hx)⟩,λx hx=>u8_of (w6.2 x hx)⟩
theorem vol_Act (a:Act):vol yaY a=1+(vol yan a.2.1+(1+(1+(((a.2.2.2.2.1.map (vol (.int .i64))).sum+1)+0)))):=rfl
theorem Wf_Act {a:Act}(hw:Wf yaY a):Wf (.int .i64) a.1∧Wf yan a.2.1∧Wf (.int .i64) a.2.2.1∧Wf (.int .i64) a.2.2.2.1∧Wf (.slice (.int .i64)) a.2.2.2.2.1∧True:=hw
theorem A_ofW {n:Nat}{a:Act}(hw:Wf yaY a)(h:vol yaY a<n):AI n a:=by
 obtain⟨w1,w2,w3,w4,w5,w6⟩:=Wf_Act hw
 rw[vol_Act]at h
 have l1:=vol_len (e := .int .i64) (l:=a.2.2.2.2.1) (λx _=>Nat.le_refl 1)
 exact⟨Q_ofW w2 (by omega),i64_of w3,i64_of w4,by omega,λx hx=>i64_of (w5.2 x hx)⟩
theorem noHandle {W:World}(h:laidMetH Tryz.prog laidAll W):laidMet Tryz.prog laidAll W:=by
 have e:(laidAll.filter λx=>x.2.handleName?.isSome)=[]:=by kernel_rfl
 unfold laidMetH at h
 rw[e]at h
 exact h
end Go.Proofs.YtdlkpmohjhjmfaaGreatDoor
namespace Go.Proofs.YtdlkpmohjhjmfaaGreatDoor
open Go Go.Va Go.Proofs
theorem eqL_symm {α:Type}{f:α→α→Bool}(h:∀ x y,f x y=f y x):∀ x y,eqL f x y=eqL f y x
 | [],[]=>rfl
 | [],_::_=>rfl
 | _::_,[]=>rfl
 | a::x,b::y=>by
  unfold eqL
  rw[h a b,eqL_symm h x y]
theorem eqD_symm:∀ (T:Ty) (x y:Den T),eqD T x y=eqD T y x
 | .int _,x,y=>by unfold eqD;exact decide_eq_decide.2 ⟨Eq.symm,Eq.symm⟩
 | .bool,x,y=>by unfold eqD;exact Bool.beq_comm
 | .str,x,y=>by unfold eqD;rw[← eqS_eq,← eqS_eq];cases h:eqS x y<;>cases h2:eqS y x<;>first | rfl | (rw[yeH h,ybF]at h2;exact h2) | (rw[yeH h2,ybF]at h;exact h.symm)
 | .arr _ e,x,y=>by unfold eqD;exact eqL_symm (eqD_symm e) x y
 | .pair a b,x,y=>by unfold eqD;rw[eqD_symm a,eqD_symm b]
 | .unit,_,_=>by unfold eqD;rfl
 | .opq _,_,_=>by unfold eqD;rfl
 | .slice _,_,_=>by unfold eqD;rfl
 | .smap,_,_=>by unfold eqD;rfl
theorem eqS_symm (x y:ByteArray):eqS x y=eqS y x:=by rw[eqS_eq,eqS_eq];exact eqD_symm .str x y
theorem int_symm (x y:Int):(x==y)=(y==x):=by
 cases h:(x==y)<;>cases h2:(y==x)<;>first | rfl | (rw[beq_iff_eq.1 h,beq_self_eq_true]at h2;exact h2) | (rw[beq_iff_eq.1 h2,beq_self_eq_true]at h;exact h.symm)
theorem allB_symm {α:Type}{f:α→α→Bool}(h:∀ x y,f x y=f y x):∀ x y,allB f x y=allB f y x
 | [],[]=>rfl
 | [],_::_=>rfl
 | _::_,[]=>rfl
 | a::x,b::y=>by
  unfold allB
  rw[h a b,allB_symm h x y]
theorem sameT_symm (x y:yaz):sameT x y=sameT y x:=by rw[← sameT_eq,← sameT_eq,eqD_symm]
theorem sameR_symm (x y:yau):sameR x y=sameR y x:=by
 unfold sameR
 rw[eqS_symm,allB_symm sameT_symm,int_symm x.2.2.1,int_symm x.2.2.2.1,Bool.beq_comm (a:=x.2.2.2.2.1)]
theorem sameG_symm (x y:yat):sameG x y=sameG y x:=eqD_symm yaD x y
theorem yet {a b c d:Bool}(h:a=c)(h2:b=d):(a&&b)=(c&&d):=by rw[h,h2]
theorem sameQ_symm (x y:Q):sameQ x y=sameQ y x:=by
 unfold sameQ
 refine yet (int_symm _ _) (yet (eqS_symm _ _) (yet (eqS_symm _ _) (yet (eqS_symm _ _) (yet (int_symm _ _) (yet (eqD_symm _ _ _) (yet Bool.beq_comm (yet (eqD_symm _ _ _) (yet ?_ (yet (eqS_symm _ _) (yet (eqS_symm _ _) (yet (eqS_symm _ _) (yet (eqD_symm _ _ _) (yet ?_ (yet (eqS_symm _ _) (yet (allB_symm sameT_symm _ _) (yet (allB_symm sameR_symm _ _) (yet (allB_symm sameG_symm _ _) (allB_symm (λx y=>int_symm x y) _ _))))))))))))))))))
 all_goals first | exact int_symm _ _ | exact Bool.beq_comm
theorem sameA_symm (a b:Act):sameA a b=sameA b a:=by
 unfold sameA
 rw[int_symm a.1,int_symm a.2.2.1,int_symm a.2.2.2.1,sameQ_symm,allB_symm (f:=sameI) (λx y=>int_symm x y)]
noncomputable def lineL (a:Act):List UInt8:=(joinT (linS a).1).data.toList
theorem lit_nt (s:ByteArray)(h:(s.data.toList.all λc=>c != 10)=true):∀ c∈s.data.toList,c≠10:=λc hc e=>by
 have:=List.all_eq_true.1 h c hc
 rw[e]at this
 exact absurd this (by decide)
theorem itoa_nt (v:Int):∀ c∈(itoaB v).data.toList,c≠10:=by
 have e:(itoaB v).data.toList=Lib.itoa v:=rfl
 rw[e]
 unfold Lib.itoa
 intro c hc
 split at hc
 ·rcases List.mem_cons.1 hc with rfl | hc
  ·decide
  ·have:=dec_dig _ c hc;intro e;rw[e]at this;exact absurd this (by decide)
 ·have:=dec_dig _ c hc;intro e;rw[e]at this;exact absurd this (by decide)
theorem hex_nt {q:Q}:∀ c∈(xB++yaT (hexL (askS q).1)).data.toList,c≠10:=by
 intro c hc
 rw[ByteArray.data_append,Array.toList_append]at hc
 rcases List.mem_append.1 hc with hc | hc
 ·have hc:c∈[(120:UInt8)]:=hc
  rw[List.mem_singleton.1 hc];decide
 ·intro e
  subst e
  have hB:BY (hexL (askS q).1):=by
   intro x hx
   obtain⟨y,_,hy⟩:=List.mem_flatMap.1 hx
   have hr:∀ i,0≤bt H16 i∧bt H16 i≤255:=λi=>by
    unfold bt
    have:=(H16.data.toList.getD i.toNat 0).toNat_lt
    omega
   simp only[hex2,List.mem_cons,List.mem_nil_iff,or_false]at hy
   rcases hy with rfl | rfl<;>exact hr _
  have h32:(10:Int)∈ybN (yaT (hexL (askS q).1)):=List.mem_map.2 ⟨10,hc,rfl⟩
  rw[yen hB]at h32
  obtain⟨y,hy1,hy⟩:=List.mem_flatMap.1 h32
  have hby:0≤y∧y≤255:=by
   have:BY (askS q).1:=by
    unfold askS
    split
    ·exact BY_Q q
    ·exact ydZ
   exact this y hy1
  have hn:∀ a:Fin 16,bt H16 ((a:Nat):Int)≠10:=by decide +kernel
  have hn':∀ a:Int,0≤a→a<16→bt H16 a≠10:=λa h0 h1=>by
   have:=hn ⟨a.toNat,by omega⟩
   simp only[show ((a.toNat:Nat):Int)=a by omega]at this
   exact this
  simp only[hex2,List.mem_cons,List.mem_nil_iff,or_false]at hy
  rcases hy with hy | hy
  ·exact hn' (y/16) (by omega) (by omega) hy.symm
  ·exact hn' (y%16) (by omega) (by omega) hy.symm
theorem words_nt (a:Act):∀ w∈(linS a).1,∀ c∈w.data.toList,c≠10:=by
 unfold linS
 intro w hw
 by_cases h2:a.1=2
 ·rw[if_pos h2]at hw
  simp only[List.mem_cons,List.mem_nil_iff,or_false]at hw
  rcases hw with rfl | rfl
  ·exact lit_nt _ (by decide +kernel)
  ·exact hex_nt
 rw[if_neg h2]at hw
 by_cases h3:a.1=3
 ·rw[if_pos h3]at hw
  simp only[List.mem_cons,List.mem_nil_iff,or_false]at hw
  rcases hw with rfl | rfl
  ·exact lit_nt _ (by decide +kernel)
  ·exact itoa_nt _
 rw[if_neg h3]at hw
 by_cases h7:a.1=7
 ·rw[if_pos h7]at hw
  simp only[List.mem_cons,List.mem_nil_iff,or_false]at hw
  rcases hw with rfl | rfl
  ·exact lit_nt _ (by decide +kernel)
  ·exact itoa_nt _
 rw[if_neg h7]at hw
 by_cases h8:a.1=8
 ·rw[if_pos h8]at hw
  rcases List.mem_cons.1 hw with rfl | hw
  ·exact lit_nt _ (by decide +kernel)
  rcases List.mem_cons.1 hw with rfl | hw
  ·exact itoa_nt _
  rcases List.mem_cons.1 hw with rfl | hw
  ·exact itoa_nt _
  obtain⟨z,_,rfl⟩:=List.mem_map.1 hw
  exact itoa_nt _
 rw[if_neg h8]at hw
 obtain rfl:=List.mem_singleton.1 hw
 unfold wordB
 repeat' split
 all_goals exact lit_nt _ (by decide +kernel)
theorem join_nt:∀ l:List ByteArray,(∀ w∈l,∀ c∈w.data.toList,c≠10)→∀ c∈(joinT l).data.toList,c≠10
 | [],_,c,hc=>nomatch (show c∈([]:List UInt8) from hc)
 | x::l,h,c,hc=>by
  have e:(joinT (x::l)).data.toList=x.data.toList++Lib.joinTail [32] (l.map (·.data.toList)):=by
   unfold joinT joinB
   rw[List.map_cons,Lib.join_cons]
  rw[e]at hc
  rcases List.mem_append.1 hc with hc | hc
  ·exact h x List.mem_cons_self c hc
  ·unfold Lib.joinTail at hc
   obtain⟨p,hp,hc⟩:=List.mem_flatten.1 hc
   rw[List.map_map]at hp
   obtain⟨y,hy,rfl⟩:=List.mem_map.1 hp
   rcases List.mem_append.1 hc with hc | hc
   ·rw[List.mem_singleton.1 hc];decide
   ·exact h y (List.mem_cons_of_mem _ hy) c hc
theorem line_nt (a:Act):∀ c∈lineL a,c≠10:=join_nt _ (words_nt a)
theorem line_len {n:Nat}{a:Act}(ha:AI n a):(joinT (linS a).1).size≤22*n+60100:=by
 have hlen:=ha.len
 unfold linS
 by_cases h2:a.1=2
 ·rw[if_pos h2]
  have hl:=(ask_BB (n:=30000) (by omega) a.2.1).len
  have:=yfo (x:=askW) (l:=[xB++yaT (hexL (askS a.2.1).1)]) (c:=60000) (λy hy=>by
   obtain rfl:=List.mem_singleton.1 hy
   rw[ByteArray.size_append,yah,hexL_len];change 1+_≤_;omega)
  change _≤3+1*(60000+1) at this
  exact Nat.le_trans this (by omega)
 rw[if_neg h2]
 by_cases h3:a.1=3
 ·rw[if_pos h3]
  have:=yfo (x:=clockW) (l:=[itoaB a.2.2.1]) (c:=21) (λy hy=>by
   obtain rfl:=List.mem_singleton.1 hy;exact ycA ha.t)
  change _≤5+1*(21+1) at this
  exact Nat.le_trans this (by omega)
 rw[if_neg h3]
 by_cases h7:a.1=7
 ·rw[if_pos h7]
  have:=yfo (x:=failW) (l:=[itoaB a.2.2.2.1]) (c:=21) (λy hy=>by
   obtain rfl:=List.mem_singleton.1 hy;exact ycA ha.m)
  change _≤4+1*(21+1) at this
  exact Nat.le_trans this (by omega)
 rw[if_neg h7]
 by_cases h8:a.1=8
 ·rw[if_pos h8]
  have:=yfo (x:=yfB) (l:=itoaB a.2.2.2.1::itoaB a.2.2.1::a.2.2.2.2.1.map itoaB) (c:=21) (λy hy=>by
   rcases List.mem_cons.1 hy with rfl | hy
   ·exact ycA ha.m
   rcases List.mem_cons.1 hy with rfl | hy
   ·exact ycA ha.t
   obtain⟨z,hz,rfl⟩:=List.mem_map.1 hy
   exact ycA (ha.ks z hz))
  rw[List.length_cons,List.length_cons,List.length_map]at this
  change _≤5+(a.2.2.2.2.1.length+1+1)*(21+1) at this
  exact Nat.le_trans this (by omega)
 rw[if_neg h8]
 have:(wordB a.1).size≤8:=by
  unfold wordB
  repeat' split
  all_goals decide
 change (joinT [wordB a.1]).size≤_
 rw[ye4]
 omega
noncomputable def wantB (l:List Act):List UInt8:=l.flatMap λa=>lineL a++[10]
noncomputable def allOk (l:List Act):Bool:=l.all λa=>(linS a).2
theorem fi_app:∀ (t r:List UInt8),(∀ c∈t,c≠10)→fi (t++10::r)=t.length
 | [],r,_=>by rw[List.nil_append];unfold fi;rw[if_pos rfl];rfl
 | x::t,r,h=>by
  rw[List.cons_append]
  unfold fi
  rw[if_neg (h x List.mem_cons_self),fi_app t r (λc hc=>h c (List.mem_cons_of_mem _ hc)),List.length_cons]
theorem lns_want:∀ (l:List Act) (m:Nat),l.length≤m→lnsL m (wantB l)=l.map lineL
 | [],m,_=>by
  cases m with
  | zero=>rfl
  | succ m=>unfold lnsL wantB;rw[List.flatMap_nil,if_pos rfl];rfl
 | a::r,0,h=>by rw[List.length_cons]at h;omega
 | a::r,m+1,h=>by
  rw[List.length_cons]at h
  have e:wantB (a::r)=lineL a++10::wantB r:=by
   unfold wantB
   rw[List.flatMap_cons,List.append_assoc];rfl
  unfold lnsL
  rw[e,if_neg (by intro h0;have:=congrArg List.length h0;rw[List.length_append,List.length_cons,List.length_nil]at this;omega),fi_app _ _ (line_nt a)]
  rw[List.take_left,show lineL a++10::wantB r=(lineL a++[10])++wantB r by rw[List.append_assoc];rfl,show (lineL a).length+1=(lineL a++[10]).length by rw[List.length_append,List.length_singleton],List.drop_left,lns_want r m (by omega),List.map_cons]
theorem want_cons (a:Act)(r:List Act):wantB (a::r)=lineL a++[10]++wantB r:=by
 unfold wantB
 rw[List.flatMap_cons]
theorem line_size (a:Act):(joinT (linS a).1).size=(lineL a).length:=yep _
theorem goS_is {n:Nat}(hn:300000≤n)(hn2:n≤1048576*4):∀ (l:List Act) (full:Bool) (out:List UInt8),(∀ a∈l,AI n a)→(full=true∨out.length≤65536) →
  goS n l full out=some (if allOk l=true then (if (full||decide (out.length+(wantB l).length>65536))=true then (⟨#[]⟩,9) else (⟨(out++wantB l).toArray⟩,0)) else (⟨#[]⟩,1))
 | [],full,out,_,hf=>by
  unfold goS
  rw[if_pos (show allOk []=true from rfl)]
  have e:(wantB []).length=0:=rfl
  rw[e,Nat.add_zero,show wantB []=[] from rfl,List.append_nil]
  cases full
  ·rcases hf with hf | hf
   ·exact nomatch hf
   ·rw[decide_eq_false (by omega)];rfl
  ·rfl
 | a :: r,full,out,ha,hf=>by
  have haa:=ha a List.mem_cons_self
  have hl:=line_len haa
  have hsz:=line_size a
  have hr:∀ b∈r,AI n b:=λb hb=>ha b (List.mem_cons_of_mem _ hb)
  have hlen:(wantB (a::r)).length=(lineL a).length+1+(wantB r).length:=by
   rw[want_cons,List.length_append,List.length_append,List.length_singleton]
  unfold goS
  rw[script_Line hn hn2 haa]
  have ho:allOk (a::r)=((linS a).2&&allOk r):=rfl
  rw[ho]
  cases h:(linS a).2
  ·rw[if_neg (by decide),Bool.false_and,if_neg (by decide)]
   rfl
  ·rw [if_pos rfl,Bool.true_and]
   try dsimp only
   rw[if_neg (by decide),if_pos (by omega)]
   by_cases hc:(full||decide (out.length+(joinT (linS a).1).size≥65536))=true
   ·rw[if_pos hc,goS_is hn hn2 r true out hr (.inl rfl),Bool.true_or,if_pos rfl]
    rw[show (full||decide (out.length+(wantB (a::r)).length>65536))=true from by
     rcases Bool.or_eq_true_iff.1 hc with h1 | h1
     ·rw[h1];rfl
     ·have:=of_decide_eq_true h1
      rw[decide_eq_true (by omega),Bool.or_true],if_pos rfl]
   ·rw[if_neg hc]
    obtain⟨h1,h2⟩:=Bool.or_eq_false_iff.1 (Bool.not_eq_true _ ▸ hc)
    have h2:=of_decide_eq_false h2
    have hol:(out++(joinT (linS a).1).data.toList++[10]).length=out.length+(lineL a).length+1:=by
     rw[List.length_append,List.length_append,List.length_singleton];rfl
    rw[goS_is hn hn2 r false (out++(joinT (linS a).1).data.toList++[10]) hr (.inr (by omega)),h1,hol,hlen]
    rw[show out.length+(lineL a).length+1+(wantB r).length=out.length+((lineL a).length+1+(wantB r).length) by omega]
    rw[show out++(joinT (linS a).1).data.toList++[10]++wantB r=out++wantB (a::r) by rw[want_cons];simp only[List.append_assoc];rfl]
theorem wants_J {n:Nat}(hn:300000≤n)(hn2:n≤1048576*4){l:List Act}(hl:l.length<n)(ha:∀ a∈l,AI n a)(s:ByteArray)(e:Int):∀ (m k:Nat) (want:ByteArray),k≤l.length→l.length-k<m→want.size≤k*100000000 →
  ya4.J1 n m (l,s,e,want,(k:Int),())=if allOk (l.drop k)=true then ya4.J2 n (l,s,e,want++⟨(wantB (l.drop k)).toArray⟩,()) else some ((e==1)&&eqS s ⟨#[]⟩,())
 | 0,k,want,_,h,_=>by omega
 | m + 1,k,want,hk,h,hw=>by
  rw[ya4.e1,yaJ]
  by_cases hlt:k<l.length
  ·have hd:l.drop k=l.getD k (Va.dflt yaY)::l.drop (k+1):=by
    rw[List.drop_eq_getElem_cons hlt,List.getD_eq_getElem?_getD,List.getElem?_eq_getElem hlt];rfl
   have haa:AI n (l.getD k (Va.dflt yaY)):=ha _ (yc5 hlt)
   rw[decide_eq_true (by omega),yaq,yar ⟨by omega,by omega⟩,Int.toNat_natCast,hd]
   have ih:=wants_J hn hn2 hl ha s e m (k+1)
   generalize l.getD k (Va.dflt yaY)=a at haa ⊢
   have hll:=line_len haa
   rw[law_line hn (by omega) haa,yab]
   try dsimp only
   have ho:allOk (a::l.drop (k+1))=((linS a).2&&allOk (l.drop (k+1))):=rfl
   rw[ho]
   cases hh:(linS a).2
   ·rw[Bool.not_false,yaq,awakeS hn (by omega),yab,yaq,yaJ,yaJ,Bool.false_and,if_neg (by decide)]
    cases (e==1)<;>simp[ydC]
   ·have hs1:(joinT (linS a).1++(⟨#[10]⟩:ByteArray)).size=(joinT (linS a).1).size+1:=by rw[ByteArray.size_append];rfl
    have hs0:(⟨#[10]⟩:ByteArray).size=1:=rfl
    have hkb:k*100000000≤4194304*100000000:=Nat.mul_le_mul_right _ (by omega)
    rw[Bool.not_true,yaj,yar (by omega),yar (by omega),ybp k (by omega),ih _ (by omega) (by omega) (by rw[ByteArray.size_append,hs1,Nat.succ_mul];omega),Bool.true_and]
    have e1:want++(joinT (linS a).1++(⟨#[10]⟩:ByteArray))++⟨(wantB (l.drop (k+1))).toArray⟩=want++⟨(wantB (a::l.drop (k+1))).toArray⟩:=by
     apply data_inj
     simp only[ByteArray.data_append,Array.toList_append,want_cons,List.append_assoc]
     rfl
    rw[e1]
  ·rw[decide_eq_false (by omega),yaj,List.drop_eq_nil_of_le (by omega),if_pos (show allOk []=true from rfl)]
   rw[show want++(⟨(wantB []).toArray⟩:ByteArray)=want from by
    apply data_inj
    simp only[ByteArray.data_append,Array.toList_append]
    exact List.append_nil _]
def okAs (n:Nat):List Act→List Act→Prop
 | [],[]=>True
 | b::bs,a::l=>(sameA b a=true∧AI n b)∧okAs n bs l
 | _,_=>False
theorem okAs_len {n:Nat}:∀ {bs l:List Act},okAs n bs l→bs.length=l.length
 | [],[],_=>rfl
 | [],_::_,h=>h.elim
 | _::_,[],h=>h.elim
 | _::_,_::_,h=>by rw[List.length_cons,List.length_cons,okAs_len h.2]
theorem okAs_get {n:Nat}(d:Act):∀ {bs l:List Act} (k:Nat),okAs n bs l→k<l.length→sameA (bs.getD k d) (l.getD k d)=true∧AI n (bs.getD k d)
 | [],[],k,_,h=>absurd h (Nat.not_lt_zero _)
 | [],_::_,_,h,_=>h.elim
 | _::_,[],_,h,_=>h.elim
 | _::_,_::_,0,h,_=>h.1
 | _::_,_::_,k+1,h,hk=>okAs_get d k h.2 (Nat.lt_of_succ_lt_succ hk)
theorem acts_want {n:Nat}(hn:300000≤n)(hn2:n≤1048576*4):∀ (l:List Act) (out:List Act),(∀ a∈l,AI n a)→(∀ a∈l,(lineL a).length<n)→allOk l=true→out.length+l.length≤4096→∃ bs,actsS n out (l.map lineL)=(out++bs,0,0)∧okAs n bs l
 | [],out,_,_,_,h=>by
  refine⟨[],?_,trivial⟩
  unfold actsS
  rw[List.map_nil]
  try dsimp only
  rw[if_neg (by rw[List.length_nil]at h;omega),List.append_nil]
 | a::r,out,ha,hb,ho,h=>by
  rw[List.length_cons]at h
  have ho:((linS a).2&&allOk r)=true:=ho
  obtain⟨h1,h2⟩:=Bool.and_eq_true_iff.1 ho
  obtain⟨b,g1,g2⟩:=act_back hn hn2 (ha a List.mem_cons_self) h1
  have hx:(⟨(lineL a).toArray⟩:ByteArray)=joinT (linS a).1:=data_inj rfl
  have hav:actV n ⟨(lineL a).toArray⟩=(b,0):=by
   unfold actV
   rw[hx,g1]
  have hai:AI n b:=by
   obtain⟨a1,a2⟩:=actV_is (n:=n) (by omega) (by omega) (s:=⟨(lineL a).toArray⟩) (by rw[hx,line_size];exact hb a List.mem_cons_self)
   rw[hav]at a2
   rcases a2 with a2 | a2
   ·exact absurd a2 (show ¬ (0:Int)=5 by decide)
   ·exact a2.2
  obtain⟨bs,e1,e2⟩:=acts_want hn hn2 r (out++[b]) (λx hx=>ha x (List.mem_cons_of_mem _ hx)) (λx hx=>hb x (List.mem_cons_of_mem _ hx)) h2 (by rw[List.length_append,List.length_singleton];omega)
  refine⟨b::bs,?_,⟨by rw[sameA_symm];exact g2,hai⟩,e2⟩
  rw[List.map_cons]
  unfold actsS
  rw[hav,if_pos rfl,e1,List.append_assoc]
  rfl
theorem all_J {n:Nat}(hn:300000≤n)(hn2:n≤1048576*4){l bs:List Act}(hl:l.length<n)(h:okAs n bs l):∀ (m k:Nat),k≤l.length→l.length-k<m→ya4.J6 n m (l,bs,(k:Int),())=some (true,())
 | 0,k,_,hm=>by omega
 | m+1,k,hk,hm=>by
  have hlen:=okAs_len h
  rw[ya4.e6,yaJ]
  by_cases hlt:k<l.length
  ·obtain⟨g1,g2⟩:=okAs_get (Va.dflt yaY) k h hlt
   have hz:=law_same (n:=n) (a:=bs.getD k (Va.dflt yaY)) (b:=l.getD k (Va.dflt yaY)) (by omega) (by omega) g2.q.1 (by have:=g2.len;omega)
   rw[g1]at hz
   rw[decide_eq_true (by omega),yaq,yar ⟨by omega,by omega⟩,yar ⟨by omega,by omega⟩,Int.toNat_natCast,Nat.zero_add,hz,yab]
   try dsimp only
   rw[Bool.not_true,yaj,ybp k (by omega)]
   exact all_J hn hn2 hl h m (k+1) (by omega) (by omega)
  ·rw[decide_eq_false (by omega),yaj,ya4.e7]
theorem want_mem (l:List Act):∀ a,a∈l→(lineL a).length<(wantB l).length:=by
 induction l with
 | nil=>intro a h;exact absurd h (List.not_mem_nil)
 | cons b r ih=>
  intro a h
  have e:(wantB (b::r)).length=(lineL b).length+1+(wantB r).length:=by
   rw[want_cons,List.length_append,List.length_append,List.length_singleton]
  rw[e]
  rcases List.mem_cons.1 h with h | h
  ·rw[h];exact Nat.lt_of_lt_of_le (Nat.lt_succ_self _) (Nat.le_add_right _ _)
  ·exact Nat.lt_of_lt_of_le (ih a h) (Nat.le_add_left _ _)
theorem want_count:∀ l:List Act,l.length≤(wantB l).length
 | []=>Nat.zero_le _
 | b::r=>by
  rw[want_cons,List.length_append,List.length_append,List.length_singleton,List.length_cons]
  have:=want_count r
  omega
theorem lawTexts {n:Nat}(hn:300000≤n)(hn2:n≤1048576*4){l:List Act}(hl:l.length<n)(ha:∀ a∈l,AI n a):ya4.f n l=some (true,()):=by
 rw[ya4.e0]
 unfold ye6.f
 rw[if_pos (by omega),goS_is hn hn2 l _ [] ha (.inr (Nat.zero_le _)),Option.map_some,yab]
 have hw:=wants_J hn hn2 hl ha
 have hz:((0:Nat):Int)=0:=rfl
 by_cases ho:allOk l=true
 ·rw[if_pos ho]
  have hsz:(⟨(wantB l).toArray⟩:ByteArray).size=(wantB l).length:=by rw[yep]
  have he:(⟨#[]⟩:ByteArray)++⟨(wantB l).toArray⟩=⟨(wantB l).toArray⟩:=data_inj (by simp only[ByteArray.data_append,Array.toList_append];rfl)
  by_cases hf:(decide (l.length>4096)||decide (([]:List UInt8).length+(wantB l).length>65536))=true
  ·rw[if_pos hf]
   try dsimp only
   have h1:=hw ⟨#[]⟩ 9 n 0 ⟨#[]⟩ (by omega) (by omega) (Nat.zero_le _)
   rw[List.drop_zero,if_pos ho,he,hz]at h1
   rw[h1,ya4.e2,yaJ,yaJ,hsz]
   have h3:ya4.J3 n (l,⟨#[]⟩,9,⟨(wantB l).toArray⟩,true,())=some (true,()):=by
    rw[ya4.e3,yaq,awakeS hn (by omega),yab,yaq,yaJ,yaJ,ybF,show ((9:Int)==9)=true from rfl,yaq]
   by_cases h4:l.length>4096
   ·rw[decide_eq_true (by omega),yaq,h3]
   ·rw[decide_eq_false h4,Bool.false_or,List.length_nil,Nat.zero_add]at hf
    have hf:=of_decide_eq_true hf
    rw[decide_eq_false (by omega),yaj,decide_eq_true (by omega),h3]
  ·rw[if_neg hf,List.nil_append]
   try dsimp only
   obtain⟨f1,f2⟩:=Bool.or_eq_false_iff.1 (Bool.not_eq_true _ ▸ hf)
   have f1:=of_decide_eq_false f1
   have f2:=of_decide_eq_false f2
   rw[List.length_nil,Nat.zero_add]at f2
   have h1:=hw ⟨(wantB l).toArray⟩ 0 n 0 ⟨#[]⟩ (by omega) (by omega) (Nat.zero_le _)
   rw[List.drop_zero,if_pos ho,he,hz]at h1
   rw[h1,ya4.e2,yaJ,yaJ,hsz,decide_eq_false (by omega),yaj,decide_eq_false (by omega),ya4.e3,yaj,ya4.e4]
   have hacts:∃ bs,ybx.f n ⟨(wantB l).toArray⟩=some (bs,0,0,())∧okAs n bs l:=by
    rw[ybx.e0,yaJ,decide_eq_false (by omega),yaj]
    have g1:=acts_J (n:=n) (by omega) (by omega) n ⟨(wantB l).toArray⟩ [] (by omega) (by omega) (by rw[hsz];change 0+_≤_;omega)
    rw[show (([]:List Act).length:Int)+1=1 from rfl]at g1
    have hwc:=want_count l
    have g0:lnsL n (⟨(wantB l).toArray⟩:ByteArray).data.toList=l.map lineL:=lns_want l n (by omega)
    obtain⟨bs,g2,g3⟩:=acts_want hn hn2 l [] ha (λa h=>by have:=want_mem l a h;omega) ho (by change 0+_≤_;omega)
    rw[g0,g2]at g1
    exact⟨bs,g1,g3⟩
   obtain⟨bs,g1,g2⟩:=hacts
   have hbl:=okAs_len g2
   rw[g1,yab,awakeS hn (by omega),yab]
   try dsimp only
   simp only[yaJ]
   rw[Bool.not_true,yaj,show ((0:Int) != 0)=false from rfl,yaj,ybF,Bool.not_true,yaj,yaj,yaj,hbl,bne_self_eq_false,yaj,ya4.e5]
   have:=all_J hn hn2 hl g2 n 0 (by omega) (by omega)
   rw[hz]at this
   exact this
 ·rw[if_neg ho]
  try dsimp only
  have h1:=hw ⟨#[]⟩ 1 n 0 ⟨#[]⟩ (by omega) (by omega) (Nat.zero_le _)
  rw[List.drop_zero,if_neg ho,hz]at h1
  rw[h1,ybF]
  rfl
end Go.Proofs.YtdlkpmohjhjmfaaGreatDoor
namespace Go.Proofs.YtdlkpmohjhjmfaaGreatDoor
open Go Go.Va Go.Proofs Go.ChangeShapes Go.WideShapes Go.ChangeAt Go.RowKit
theorem AL_ofW {n:Nat}{l:List Act}(hw:Wf (.slice yaY) l)(h:vol (.slice yaY) l<n):l.length<n∧∀ a∈l,AI n a:=by
 have h:(l.map (vol yaY)).sum+1<n:=h
 have hl:=vol_len (e:=yaY) (l:=l) (λx _=>by rw[vol_Act];omega)
 exact⟨by omega,λa ha=>A_ofW (hw.2 a ha) (by have:=vol_mem (e:=yaY) ha;omega)⟩
end Go.Proofs.YtdlkpmohjhjmfaaGreatDoor
