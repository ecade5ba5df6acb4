/-
  The plain laws.
-/
import Derived.Test.YtdlkpmohjhjmfaaGreatDoorP1
import Derived.Test.YtdlkpmohjhjmfaaGreatDoorF0
import Derived.Test.YtdlkpmohjhjmfaaGreatDoorF1
set_option linter.unusedVariables false
set_option linter.unusedSimpArgs false
namespace Go.Proofs.YtdlkpmohjhjmfaaGreatDoor
open Go Go.Va Go.Proofs
def sameA (a b:Act):Bool:=(a.1==b.1)&&((a.2.2.1==b.2.2.1)&&((a.2.2.2.1==b.2.2.2.1)&&(sameQ a.2.1 b.2.1&&allB sameI a.2.2.2.2.1 b.2.2.2.2.1)))
theorem same_J {n:Nat}(hn2:n≤536870912){a b:Act}(ha:a.2.2.2.2.1.length<n)(hl:a.2.2.2.2.1.length=b.2.2.2.2.1.length):∀ (m k:Nat),k≤a.2.2.2.2.1.length→a.2.2.2.2.1.length-k<m →
  yc4.J2 n m ((k:Int),a,b,())=some (allB sameI (a.2.2.2.2.1.drop k) (b.2.2.2.2.1.drop k),())
 | 0,k,_,h=>by omega
 | m+1,k,hk,h=>by
  rw[yc4.e2,yaJ]
  by_cases hlt:k<a.2.2.2.2.1.length
  ·have hlt2:k<b.2.2.2.2.1.length:=by omega
   have hd:∀ l:List Int,k<l.length→l.drop k=l.getD k 0::l.drop (k+1):=λl h=>getD_drop h
   rw[decide_eq_true (by omega),yaq,yas ⟨by omega,by omega⟩,yas ⟨by omega,by omega⟩,Int.toNat_natCast,yaJ,hd _ hlt,hd _ hlt2]
   unfold allB
   cases he:((a.2.2.2.2.1.getD k 0)==(b.2.2.2.2.1.getD k 0))
   ·rw[bne,he,Bool.not_false,yaq,show sameI (a.2.2.2.2.1.getD k 0) (b.2.2.2.2.1.getD k 0)=false from he,Bool.false_and]
   ·rw[bne,he,Bool.not_true,yak,show sameI (a.2.2.2.2.1.getD k 0) (b.2.2.2.2.1.getD k 0)=true from he,Bool.true_and,ybs k (by omega)]
    exact same_J hn2 ha hl m (k+1) (by omega) (by omega)
  ·rw[decide_eq_false (by omega),yak,yc4.e3,List.drop_eq_nil_of_le (by omega),List.drop_eq_nil_of_le (by omega)]
   rfl
theorem allB_nlen:∀ (x y:List Int),x.length≠y.length→allB sameI x y=false
 | [],[],h=>absurd rfl h
 | [],_::_,_=>rfl
 | _::_,[],_=>rfl
 | a::x,b::y,h=>by
  unfold allB
  rw[allB_nlen x y (λe=>h (by rw[List.length_cons,List.length_cons,e])),Bool.and_false]
theorem law_same {n:Nat}(h3:300≤n)(hn2:n≤536870912){a b:Act}(hq:QB n a.2.1)(ha:a.2.2.2.2.1.length<n):yc4.f n a b=some (sameA a b,()):=by
 rw[yc4.e0,yaJ,yaJ,yaJ,yaJ]
 unfold sameA
 cases h1:(a.1==b.1)
 ·rw[bne,h1,Bool.not_false,yaq,Bool.false_and]
 rw[bne,h1,Bool.not_true,yak,Bool.true_and]
 cases h2:(a.2.2.1==b.2.2.1)
 ·rw[bne,h2,Bool.not_false,yaq,Bool.false_and]
 rw[bne,h2,Bool.not_true,yak,Bool.true_and]
 cases h4:(a.2.2.2.1==b.2.2.2.1)
 ·rw[bne,h4,Bool.not_false,yaq,Bool.false_and]
 rw[bne,h4,Bool.not_true,yak,Bool.true_and,ref26_Same h3 hn2 hq,yab]
 cases h5:sameQ a.2.1 b.2.1
 ·rw[Bool.not_false,yaq,Bool.false_and]
 rw[Bool.not_true,yak,Bool.true_and]
 by_cases hl:a.2.2.2.2.1.length=b.2.2.2.2.1.length
 ·rw[show (((a.2.2.2.2.1.length:Nat):Int) != ((b.2.2.2.2.1.length:Nat):Int))=false by rw[hl];simp,yak,yc4.e1]
  have:=same_J hn2 ha hl n 0 (by omega) (by omega)
  rw[List.drop_zero,List.drop_zero]at this
  exact this
 ·rw[show (((a.2.2.2.2.1.length:Nat):Int) != ((b.2.2.2.2.1.length:Nat):Int))=true by simp;omega,yaq,allB_nlen _ _ hl]
theorem sameA_refl (a:Act):sameA a a=true:=by
 unfold sameA
 rw[sameQ_refl,allB_refl (q:=sameI) _ (λx _=>(beq_self_eq_true x:(x==x)=true))]
 simp only[beq_self_eq_true,Bool.and_true]
theorem bareB_is {a:Act}(h:bareB a=true):sameQ a.2.1 qZ=true∧a.2.2.1=0∧a.2.2.2.1=0∧a.2.2.2.2.1=[]:=by
 unfold bareB at h
 simp only[Bool.and_eq_true,beq_iff_eq]at h
 obtain⟨h1,h2,h3,h4⟩:=h
 exact⟨h1,h2,h3,List.eq_nil_of_length_eq_zero (by omega)⟩
theorem sameA_of {a b:Act}(h1:a.1=b.1)(h2:a.2.2.1=b.2.2.1)(h3:a.2.2.2.1=b.2.2.2.1)(h4:sameQ a.2.1 b.2.1=true)(h5:a.2.2.2.2.1=b.2.2.2.2.1):sameA a b=true:=by
 unfold sameA
 rw[h1,h2,h3,h4,h5,allB_refl (q:=sameI) _ (λx _=>(beq_self_eq_true x:(x==x)=true))]
 simp only[beq_self_eq_true,Bool.and_true]
theorem cutX {n:Nat}(s:ByteArray)(hs:s.size≤4611686018427387904):ydb.f n s xB=some (if s.data.toList.head?=some 120 then (⟨s.data.toList.tail.toArray⟩,true,()) else (s,false,())):=by
 have h1:((xB.size:Nat):Int)=1:=rfl
 have hp:ybv.f n s xB=some (decide (s.data.toList.head?=some 120),()):=by
  rw[ybv.e0,yaJ,h1]
  by_cases h:1≤s.size
  ·rw[decide_eq_true (by omega),yaq,yas ⟨by decide,by omega⟩,yas ⟨by decide,by decide⟩,yaJ,eqS_eq,ba_beq]
   congr 2
   have hc:∃ c r,s.data.toList=c::r:=by
    cases hl:s.data.toList with
    | nil=>rw[yfl,hl]at h;exact absurd h (by decide)
    | cons c r=>exact⟨c,r,rfl⟩
   obtain⟨c,r,hl⟩:=hc
   rw[decide_eq_decide,hl]
   have he:(s.extract 0 ((1:Int).toNat)).data.toList=[c]:=by
    rw[show ((1:Int).toNat)=1 from rfl,Lib.extract_from_zero,hl];rfl
   constructor
   ·intro e
    rw[e]at he
    have he:[(120:UInt8)]=[c]:=he
    injection he with he
    rw[← he];rfl
   ·intro e
    have e:some c=some (120:UInt8):=e
    injection e with e
    apply data_inj
    change (s.extract 0 ((1:Int).toNat)).data.toList=_
    rw[he,e]
  ·rw[decide_eq_false (by omega),yak]
   have:s.data.toList=[]:=List.eq_nil_of_length_eq_zero (by rw[← yfl];omega)
   rw[this];rfl
 rw[ydb.e0,ybL.e0,hp,yab]
 try dsimp only
 by_cases h:s.data.toList.head?=some 120
 ·have hc:1≤s.size:=by
   cases hl:s.data.toList with
   | nil=>rw[hl]at h;exact nomatch h
   | cons c r=>rw[yfl,hl,List.length_cons];omega
  rw[decide_eq_true h,Bool.not_true,yak,yas ⟨by omega,by omega⟩,yas ⟨by decide,by omega⟩,yab,if_pos h,h1]
  try dsimp only
  congr 2
  apply data_inj
  change (s.extract ((1:Int).toNat) ((s.size:Int).toNat)).data.toList=s.data.toList.tail
  rw[show ((1:Int).toNat)=1 from rfl,Int.toNat_natCast,Lib.extract_to_end]
  exact (List.drop_one).symm ▸ rfl
 ·rw[decide_eq_false h,Bool.not_false,yaq,yab,if_neg h]
theorem ask_any {n:Nat}(hn:30000≤n)(hn2:n≤536870912)(s:ByteArray)(hs:s.size<n):∃ b ok,ydB.f n s=some (b,ok,()) ∧
  (ok=true→b.2.2=(0,(0,([],())))∧b.1=2∧bdQ n b.2.1∧(askS b.2.1).2=0∧s=xB++yaT (hexL (askS b.2.1).1)):=by
 rw[ydB.e0,cutX s (by omega),yab]
 have key:∀ (h:ByteArray) (c:Bool),h.size≤s.size→(c=true→s=xB++h) →
   ∃ b ok,(bnd (ycG.f n h) λu2=>bnd (ybp.f n u2.1) λu3=>bIf c (bIf ((hide (u2.2.1==(0:Int)))) (bIf ((hide (u3.2.1==(0:Int)))) (bnd (yaH.f n u3.1) λu4=>some (((2,(u3.1,(0,(0,([],()))))):Act),u4.1,())) (some ((2,(u3.1,(0,(0,([],()))))),false,()))) (some ((2,(u3.1,(0,(0,([],()))))),false,()))) (some ((2,(u3.1,(0,(0,([],()))))),false,())))=some (b,ok,()) ∧
   (ok=true→b.2.2=(0,(0,([],())))∧b.1=2∧bdQ n b.2.1∧(askS b.2.1).2=0∧s=xB++yaT (hexL (askS b.2.1).1)):=by
  intro h c hsz hx
  rw[alpha_Unhex (by omega) (by omega),yab]
  have hby:BY (ybQ h):=λx hx=>ofBytes_range hx
  have hsz2:=size_of h
  cases hu:unhex (ybQ h) with
  | none=>
   unfold back
   try dsimp only
   rcases asked_reads hn hn2 (BB_nil (n:=n) (by omega)) with h1 | ⟨x,h1,_⟩
   ·rw[h1,yab,yaJ,show ((5:Int)==0)=false from rfl,yak]
    cases c<;>exact⟨_,false,rfl,λh=>nomatch h⟩
   ·rw[h1,yab,yaJ,show ((5:Int)==0)=false from rfl,yak]
    cases c<;>exact⟨_,false,rfl,λh=>nomatch h⟩
  | some p=>
   obtain⟨i1,i2,i3⟩:=hex_unhex _ _ hby hu
   unfold back
   try dsimp only
   rcases asked_reads hn hn2 (b:=p) ⟨by omega,i2⟩ with h1 | ⟨x,h1,h2,h3,h4⟩
   ·rw[h1,yab,yaJ,yaJ,show ((0:Int)==0)=true from rfl,yaq,show ((2:Int)==0)=false from rfl,yak]
    cases c<;>exact⟨_,false,rfl,λh=>nomatch h⟩
   ·rw[h1,yab]
    rw[yaJ,show ((0:Int)==0)=true from rfl,yaq,yaq]
    try dsimp only
    rw[acts_Good (by omega) hn2 h2.1,yab]
    obtain⟨g1,g2⟩:=askS_ok h3
    rw[g1]
    cases c
    ·exact⟨_,false,rfl,λh=>nomatch h⟩
    ·refine⟨_,true,rfl,λ_=>⟨rfl,rfl,h2,h3,?_⟩⟩
     change s=xB++yaT (hexL (askS x).1)
     rw[g2,h4,i1,bytesOf_ofBytes]
     exact hx rfl
 by_cases h:s.data.toList.head?=some 120
 ·rw[if_pos h]
  obtain⟨c,r,hl⟩:∃ c r,s.data.toList=c::r:=by
   cases hl:s.data.toList with
   | nil=>rw[hl]at h;exact nomatch h
   | cons c r=>exact⟨c,r,rfl⟩
  rw[hl]at h
  have h:some c=some (120:UInt8):=h
  injection h with h
  refine key ⟨s.data.toList.tail.toArray⟩ true ?_ (λ_ => ?_)
  ·rw[yfl,yfl s,hl];simp
  ·apply data_inj
   change s.data.toList=(xB++⟨s.data.toList.tail.toArray⟩).data.toList
   rw[ByteArray.data_append,Array.toList_append,hl,h];rfl
 ·rw[if_neg h]
  exact key s false (Nat.le_refl _) (λh=>nomatch h)
theorem ask_back {n:Nat}(hn:30000≤n)(hn2:n≤536870912){q:Q}(hq:bdQ n q)(h:(askS q).2=0):ydB.f n (xB++yaT (hexL (askS q).1))=some ((2,(q,(0,(0,([],()))))),true,()):=by
 obtain⟨g1,g2⟩:=askS_ok h
 have hl:=encQ_len (sndQ_of g1)
 have hsz:(yaT (hexL (askS q).1)).size≤40600:=by rw[yah,hexL_len,g2];omega
 have e:(xB++yaT (hexL (askS q).1)).data.toList=120::(yaT (hexL (askS q).1)).data.toList:=by
  rw[ByteArray.data_append,Array.toList_append];rfl
 rw[ydB.e0,cutX _ (by rw[ByteArray.size_append];change 1+_≤_;omega),yab,e,if_pos (show (120::(yaT (hexL (askS q).1)).data.toList).head?=some 120 from rfl)]
 have hb:BY (hexL (askS q).1):=by
  intro x hx
  obtain⟨y,_,hy⟩:=List.mem_flatMap.1 hx
  have hr:∀ i,0≤bt H16 i∧bt H16 i≤255:=λi=>by
   unfold bt
   have:=(H16.data.toList.getD i.toNat 0).toNat_lt
   omega
  simp only[hex2,List.mem_cons,List.mem_nil_iff,or_false]at hy
  rcases hy with rfl | rfl<;>exact hr _
 change (bnd (ycG.f n (yaT (hexL (askS q).1))) _)=_
 rw[alpha_Unhex (by omega) (by omega),yeC hb,unhex_hex _ (by rw[g2];exact BY_Q q),yab]
 unfold back
 try dsimp only
 rw[g2,asked_back hn hn2 hq h,yab,yaJ,show ((0:Int)==0)=true from rfl,yaq,yaq,yaq]
 rw[acts_Good (by omega) hn2 hq.1,yab,g1]
end Go.Proofs.YtdlkpmohjhjmfaaGreatDoor

namespace Go.Proofs.YtdlkpmohjhjmfaaGreatDoor
open Go Go.Va Go.Proofs
abbrev actT (v:Int):Act:=(3,(qZ,(v,(0,([],())))))
abbrev actN (v:Int):Act:=(7,(qZ,(0,(v,([],())))))
noncomputable def numS (w0:ByteArray)(r:List ByteArray):Act×Bool:=
 if numsOk r=true then
  if eqS w0 crashW=true then crashS (numsV r)
  else if r.length=1 then
   if eqS w0 clockW=true then (actT ((numsV r).getD 0 0),true)
   else if eqS w0 failW=true then (actN ((numsV r).getD 0 0),true)
   else (actZ 0,false)
  else (actZ 0,false)
 else (actZ 0,false)
theorem numsV_len (r:List ByteArray):(numsV r).length=r.length:=by unfold numsV;rw[List.length_map]
theorem read_J2 {n:Nat}(hn2:n≤536870912){w0:ByteArray}{r:List ByteArray}(hlen:r.length<n)(hs:∀ s∈r,s.size≤281474976710656)(b2:Act) :
  ybf.J2 n (w0::r,b2,())=some ((numS w0 r).1,(numS w0 r).2,()):=by
 have hl:(((w0::r).length:Nat):Int)=(r.length:Int)+1:=by rw[List.length_cons];omega
 have ht:((w0::r).take ((((w0::r).length:Nat):Int)).toNat).drop 1=r:=by rw[Int.toNat_natCast,List.take_length];rfl
 have hg:List.getD (w0::r) 0 (⟨#[]⟩:ByteArray)=w0:=rfl
 have h0:0≤(0:Int)∧(0:Int)<(((w0::r).length:Nat):Int):=⟨by decide,by omega⟩
 have hv:=numsV_len r
 rw[ybf.e2,yas ⟨by omega,by omega⟩,yas ⟨by decide,by omega⟩,ht,script_numbers hn2 hlen hs]
 unfold numS
 by_cases h1:numsOk r=true
 ·rw [if_pos h1,if_pos h1,yab]
  try dsimp only
  rw[Bool.not_true,yak,yas h0,hg,yaJ]
  cases h2:eqS w0 crashW
  ·rw[yak,if_neg (by decide),yaJ]
   by_cases h3:r.length=1
   ·rw[show (((numsV r).length:Nat):Int)=1 by omega,show ((1:Int) != 1)=false from rfl,yak,if_pos h3,yas h0,yaJ]
    cases h4:eqS w0 clockW
    ·rw[yak,if_neg (by decide),yas h0,yaJ]
     cases h5:eqS w0 failW
     ·rw[yak,if_neg (by decide)]
     ·rw[yaq,if_pos rfl,yas ⟨by decide,by decide⟩]
    ·rw[yaq,if_pos rfl,yas ⟨by decide,by decide⟩]
   ·rw[show ((((numsV r).length:Nat):Int) != 1)=true by simp;omega,yaq,if_neg h3]
  ·rw[yaq,if_pos rfl,script_crash hn2 (by omega),yab]
 ·rw[if_neg h1,if_neg h1,yab]
  rfl
theorem read_word {n:Nat}{w0:ByteArray}{r:List ByteArray}(h:(smGet wordsL w0).2=true):ybf.f n (w0::r)=some (actZ (smGet wordsL w0).1,decide (r.length=0),()):=by
 have hl:(((w0::r).length:Nat):Int)=(r.length:Int)+1:=by rw[List.length_cons];omega
 rw[ybf.e0]
 unfold ydT.f
 rw[yab,yas ⟨by decide,by omega⟩]
 change bIf (smGet wordsL w0).2 (some (actZ (smGet wordsL w0).1,hide _,())) _=_
 rw[h,yaq,yaJ]
 congr 3
 by_cases h0:r.length=0
 ·rw[decide_eq_true h0,beq_iff_eq];omega
 ·rw[decide_eq_false h0,beq_eq_false_iff_ne];omega
theorem read_ask {n:Nat}{x:ByteArray}{b:Act}{ok:Bool}(h:ydB.f n x=some (b,ok,())):ybf.f n [askW,x]=some (b,ok,()):=by
 have h0:0≤(0:Int)∧(0:Int)<((([askW,x]:List ByteArray).length:Nat):Int):=⟨by decide,show (0:Int)<2 by decide⟩
 have h1:0≤(1:Int)∧(1:Int)<((([askW,x]:List ByteArray).length:Nat):Int):=⟨by decide,show (1:Int)<2 by decide⟩
 rw[ybf.e0]
 unfold ydT.f
 rw[yab,yas h0]
 change bIf (smGet wordsL askW).2 _ _=_
 rw[show (smGet wordsL askW).2=false by decide +kernel,yak,yas h0,yaJ]
 change bIf (eqS askW askW) _ _=_
 rw[ybM,yaq,yaJ]
 change ybf.J1 n ([askW,x],true,actZ 0,())=_
 rw[ybf.e1,yaq,yas h1]
 change (bnd (ydB.f n x) _)=_
 rw[h,yab]
theorem read_num {n:Nat}(hn2:n≤536870912){w0:ByteArray}{r:List ByteArray}(hlen:r.length<n)(hs:∀ s∈r,s.size≤281474976710656)
  (h1:(smGet wordsL w0).2=false) (h2:eqS w0 askW=false∨r.length≠1):ybf.f n (w0::r)=some ((numS w0 r).1,(numS w0 r).2,()):=by
 have hl:(((w0::r).length:Nat):Int)=(r.length:Int)+1:=by rw[List.length_cons];omega
 have h0:0≤(0:Int)∧(0:Int)<(((w0::r).length:Nat):Int):=⟨by decide,by omega⟩
 rw[ybf.e0]
 unfold ydT.f
 rw[yab,yas h0]
 change bIf (smGet wordsL w0).2 _ _=_
 rw[h1,yak,yas h0,yaJ]
 have key:ybf.J1 n (w0::r,false,actZ 0,())=some ((numS w0 r).1,(numS w0 r).2,()):=by
  rw[ybf.e1,yak]
  exact read_J2 hn2 hlen hs _
 change bIf (eqS w0 askW) _ _=_
 cases h3:eqS w0 askW
 ·rw[yak];exact key
 ·rw[yaq,yaJ]
  have h4:r.length≠1:=by
   rcases h2 with h2 | h2
   ·rw[h3]at h2;exact nomatch h2
   ·exact h2
  rw[show ((((w0::r).length:Nat):Int)==2)=false from beq_eq_false_iff_ne.2 (by omega)]
  exact key
theorem word_cases {s:ByteArray}(h:(smGet wordsL s).2=true):∃ k,(k=1∨k=4∨k=5∨k=6)∧(smGet wordsL s).1=k∧s=wordB k:=by
 unfold wordsL at h ⊢
 unfold smGet at h ⊢
 by_cases h1:eqS s ⟨#[111,112,101,110]⟩=true
 ·rw[if_pos h1];exact⟨1,.inl rfl,rfl,yeZ h1⟩
 rw[if_neg h1]at h ⊢
 unfold smGet at h ⊢
 by_cases h2:eqS s ⟨#[115,119,101,101,112]⟩=true
 ·rw[if_pos h2];exact⟨4,.inr (.inl rfl),rfl,yeZ h2⟩
 rw[if_neg h2]at h ⊢
 unfold smGet at h ⊢
 by_cases h3:eqS s ⟨#[99,111,108,108,101,99,116]⟩=true
 ·rw[if_pos h3];exact⟨5,.inr (.inr (.inl rfl)),rfl,yeZ h3⟩
 rw[if_neg h3]at h ⊢
 unfold smGet at h ⊢
 by_cases h4:eqS s ⟨#[99,104,101,99,107]⟩=true
 ·rw[if_pos h4];exact⟨6,.inr (.inr (.inr rfl)),rfl,yeZ h4⟩
 rw[if_neg h4]at h
 unfold smGet at h
 exact nomatch h
theorem bdQ_z {n:Nat}(h:300≤n):bdQ n qZ:=by
 have h0:0<n:=by omega
 exact mkQ (by change 0<n;omega) (by change 0<n;omega) h0 U64_0 ⟨h0,yea⟩ ⟨h0,by intro t ht;exact nomatch ht⟩ I64_0 ⟨h0,by intro t ht;exact nomatch ht⟩ ⟨h0,by intro t ht;exact nomatch ht⟩ ⟨Nat.zero_le 16,by intro t ht;exact nomatch ht⟩ h0 h0 h0 h0 h0 U64_0 h
theorem AI_of {n:Nat}(h:300≤n){k:Int}{q:Q}{t m:Int}{l:List Int}(hq:bdQ n q)(ht:I64 t)(hm:I64 m)(hl:l.length+2<n)(hk:∀ x∈l,I64 x):AI n (k,(q,(t,(m,(l,()))))):=⟨hq,ht,hm,hl,hk⟩
theorem nums_back {r:List ByteArray}(h:numsOk r=true):r=(numsV r).map itoaB∧∀ x∈numsV r,I64 x:=by
 unfold numsOk at h
 rw[List.all_eq_true]at h
 unfold numsV
 refine⟨?_,λx hx => ?_⟩
 ·rw[List.map_map]
  conv=>lhs;rw[← List.map_id r]
  exact List.map_congr_left λs hs=>((numB_back (h s hs)).1).symm
 ·obtain⟨s,hs,rfl⟩:=List.mem_map.1 hx
  exact (numB_back (h s hs)).2
theorem bare0 (k:Int):bareB (k,(qZ,(0,(0,([],())))))=true:=by
 unfold bareB
 rw[show sameQ qZ qZ=true from sameQ_z]
 rfl
theorem read_any {n:Nat} (hn:30000≤n) (hn2:n≤536870912) {w0:ByteArray} {r:List ByteArray} (hlen:r.length<n) (hs:∀ s∈w0::r,s.size<n) :
  ∃ b ok,ybf.f n (w0::r)=some (b,ok,())∧(ok=true→AI n b∧linS b=(w0::r,true)):=by
 cases h1:(smGet wordsL w0).2
 ·by_cases h2:eqS w0 askW=true∧r.length=1
  ·obtain⟨h2,h3⟩:=h2
   obtain rfl:=yeZ h2
   obtain⟨x,rfl⟩:=List.length_eq_one_iff.1 h3
   obtain⟨b,ok,h4,h5⟩:=ask_any hn hn2 x (hs x (by simp))
   refine⟨b,ok,read_ask h4,λho => ?_⟩
   obtain⟨g1,g2,g3,g4,g5⟩:=h5 ho
   obtain⟨k,q,t⟩:=b
   dsimp only at g1 g2 g3 g4 g5
   subst g1 g2
   refine⟨AI_of (by omega) g3 I64_0 I64_0 (by change 0+2<n;omega) (λx hx=>nomatch hx),?_⟩
   unfold linS
   rw[if_pos rfl]
   try dsimp only
   rw[g4,bare0 2,← g5]
   rfl
  ·have h3:eqS w0 askW=false∨r.length≠1:=by
    cases h:eqS w0 askW
    ·exact .inl rfl
    ·exact .inr λe=>h2 ⟨h,e⟩
   have hr:∀ s∈r,s.size≤281474976710656:=λs h=>by have:=hs s (List.mem_cons_of_mem _ h);omega
   refine⟨_,_,read_num hn2 hlen hr h1 h3,λho => ?_⟩
   unfold numS at ho ⊢
   have hv:=numsV_len r
   by_cases g1:numsOk r=true
   ·obtain⟨i1,i2⟩:=nums_back g1
    rw[if_pos g1]at ho ⊢
    by_cases g2:eqS w0 crashW=true
    ·rw [if_pos g2]at ho ⊢
     obtain rfl:=yeZ g2
     unfold crashS at ho ⊢
     by_cases g3:(numsV r).length<2∨(numsV r).getD 1 0<0∨(numsV r).getD 1 0>255
     ·rw[if_pos g3]at ho;exact nomatch ho
     ·rw[if_neg g3]
      obtain⟨x,y,l,e⟩:∃ x y l,numsV r=x::y::l:=by
       cases h:numsV r with
       | nil=>rw[h]at g3;exact absurd (.inl (by decide)) g3
       | cons x l=>cases l with
        | nil=>rw[h]at g3;exact absurd (.inl (show 1<2 by decide)) g3
        | cons y l=>exact⟨x,y,l,rfl⟩
      rw[e]at g3 i1 i2 hv ⊢
      have k1:¬ y<0:=λh=>g3 (.inr (.inl h))
      have k2:¬ y>255:=λh=>g3 (.inr (.inr h))
      rw[List.length_cons,List.length_cons]at hv
      refine⟨AI_of (by omega) (bdQ_z (by omega)) (i2 y (by simp)) (i2 x (by simp)) (by change l.length+2<n;omega) (λz hz=>i2 z (List.mem_cons_of_mem _ (List.mem_cons_of_mem _ hz))),?_⟩
      unfold linS
      rw[if_neg (show ¬ (8:Int)=2 by decide),if_neg (show ¬ (8:Int)=3 by decide),if_neg (show ¬ (8:Int)=7 by decide),if_pos rfl]
      change (crashW::itoaB x::itoaB y::l.map itoaB,bareB (8,(qZ,(0,(0,([],())))))&&(decide (y≥0)&&decide (y≤255)))=_
      rw[bare0 8,decide_eq_true (by omega),decide_eq_true (by omega),i1]
      rfl
    ·rw [if_neg g2]at ho ⊢
     by_cases g3:r.length=1
     ·rw[if_pos g3]at ho ⊢
      obtain⟨x,e⟩:=List.length_eq_one_iff.1 (hv.trans g3)
      rw[e]at i1 i2 ho ⊢
      by_cases g4:eqS w0 clockW=true
      ·rw[if_pos g4]
       obtain rfl:=yeZ g4
       refine⟨AI_of (by omega) (bdQ_z (by omega)) (i2 x (by simp)) I64_0 (by change 0+2<n;omega) (λz hz=>nomatch hz),?_⟩
       unfold linS
       rw[if_neg (show ¬ (3:Int)=2 by decide),if_pos rfl]
       change ([clockW,itoaB x],bareB (3,(qZ,(0,(0,([],()))))))=_
       rw[bare0 3,i1]
       rfl
      ·rw[if_neg g4]at ho ⊢
       by_cases g5:eqS w0 failW=true
       ·rw[if_pos g5]
        obtain rfl:=yeZ g5
        refine⟨AI_of (by omega) (bdQ_z (by omega)) I64_0 (i2 x (by simp)) (by change 0+2<n;omega) (λz hz=>nomatch hz),?_⟩
        unfold linS
        rw[if_neg (show ¬ (7:Int)=2 by decide),if_neg (show ¬ (7:Int)=3 by decide),if_pos rfl]
        change ([failW,itoaB x],bareB (7,(qZ,(0,(0,([],()))))))=_
        rw[bare0 7,i1]
        rfl
       ·rw[if_neg g5]at ho;exact nomatch ho
     ·rw[if_neg g3]at ho;exact nomatch ho
   ·rw[if_neg g1]at ho;exact nomatch ho
 ·refine⟨_,_,read_word h1,λho => ?_⟩
  have h0:r=[]:=List.eq_nil_of_length_eq_zero (of_decide_eq_true ho)
  subst h0
  obtain⟨k,hk,e1,rfl⟩:=word_cases h1
  rw[e1]
  refine⟨AI_of (by omega) (bdQ_z (by omega)) I64_0 I64_0 (by change 0+2<n;omega) (λz hz=>nomatch hz),?_⟩
  unfold linS
  rcases hk with rfl | rfl | rfl | rfl <;>
  ·rw[if_neg (by decide),if_neg (by decide),if_neg (by decide),if_neg (by decide)]
   rw[bare0]
   exact congrArg (λx=>(_,x)) (by decide +kernel)
theorem act_any {n:Nat}(hn:30000≤n)(hn2:n≤536870912){s:ByteArray}(hs:s.size<n) :
  ybk.f n s=some (actZ 0,5,())∨∃ b,ybk.f n s=some (b,0,())∧AI n b∧(linS b).2=true∧joinT (linS b).1=s:=by
 have hsp:yb4.f s ⟨#[32]⟩=some (splitW s,()):=by
  unfold yb4.f
  rw[if_pos ⟨by omega,by decide⟩];rfl
 obtain⟨x,l,e⟩:=split_ne s
 have h1:=split_len s
 have h2:=split_size s
 rw[e]at h1 h2
 rw[List.length_cons]at h1
 obtain⟨b,ok,h3,h4⟩:=read_any hn hn2 (w0:=x) (r:=l) (by omega) (λw hw=>by have:=h2 w hw;omega)
 rw[ybk.e0,hsp,yab]
 try dsimp only
 rw[e,h3,yab]
 cases ok
 ·exact .inl rfl
 ·obtain⟨h5,h6⟩:=h4 rfl
  refine .inr ⟨b,rfl,h5,by rw[h6],?_⟩
  rw[h6,← e,split_join]
end Go.Proofs.YtdlkpmohjhjmfaaGreatDoor

namespace Go.Proofs.YtdlkpmohjhjmfaaGreatDoor
open Go Go.Va Go.Proofs
theorem act_of {n:Nat}{x:ByteArray}{l:List ByteArray}{b:Act}(h:∀ w∈x::l,∀ c∈w.data.toList,c≠32)(hs:(joinT (x::l)).size<4294967281)(hr:ybf.f n (x::l)=some (b,true,())) :
  ybk.f n (joinT (x::l))=some (b,0,()):=by
 have hsp:yb4.f (joinT (x::l)) ⟨#[32]⟩=some (x::l,()):=by
  unfold yb4.f
  rw[if_pos ⟨hs,by decide⟩]
  exact congrArg (λx=>some (x,())) (split_words h)
 rw[ybk.e0,hsp,yab]
 try dsimp only
 rw[hr,yab]
 rfl
theorem hex_word {q:Q}:∀ c∈(xB++yaT (hexL (askS q).1)).data.toList,c≠32:=by
 intro c hc
 rw[ByteArray.data_append,Array.toList_append]at hc
 rcases List.mem_append.1 hc with hc | hc
 ·have hc:c∈[(120:UInt8)]:=hc
  rw[List.mem_singleton.1 hc];decide
 ·intro e
  subst e
  have hB:BY (hexL (askS q).1):=by
   intro x hx
   obtain⟨y,_,hy⟩:=List.mem_flatMap.1 hx
   have hr:∀ i,0≤bt H16 i∧bt H16 i≤255:=λi=>by
    unfold bt
    have:=(H16.data.toList.getD i.toNat 0).toNat_lt
    omega
   simp only[hex2,List.mem_cons,List.mem_nil_iff,or_false]at hy
   rcases hy with rfl | rfl<;>exact hr _
  have h32:(32:Int)∈ybQ (yaT (hexL (askS q).1)):=List.mem_map.2 ⟨32,hc,rfl⟩
  rw[yeC hB]at h32
  obtain⟨y,hy1,hy⟩:=List.mem_flatMap.1 h32
  have hby:0≤y∧y≤255:=by
   have:BY (askS q).1:=by
    unfold askS
    split
    ·exact BY_Q q
    ·exact yea
   exact this y hy1
  have hn:∀ a:Fin 16,bt H16 ((a:Nat):Int)≠32:=by decide +kernel
  have hn':∀ a:Int,0≤a→a<16→bt H16 a≠32:=λa h0 h1=>by
   have:=hn ⟨a.toNat,by omega⟩
   simp only[show ((a.toNat:Nat):Int)=a by omega]at this
   exact this
  simp only[hex2,List.mem_cons,List.mem_nil_iff,or_false]at hy
  rcases hy with hy | hy
  ·exact hn' (y/16) (by omega) (by omega) hy.symm
  ·exact hn' (y%16) (by omega) (by omega) hy.symm
theorem nums_itoa {l:List Int}(h:∀ x∈l,I64 x):numsOk (l.map itoaB)=true∧numsV (l.map itoaB)=l:=by
 unfold numsOk numsV
 rw[List.all_eq_true,List.map_map]
 refine⟨λs hs => ?_,?_⟩
 ·obtain⟨x,hx,rfl⟩:=List.mem_map.1 hs
  rw[numB_itoa (h x hx)]
 ·conv=>rhs;rw[← List.map_id l]
  exact List.map_congr_left λx hx=>by change (numB (itoaB x)).1=x;rw[numB_itoa (h x hx)]
theorem lit_ns (s:ByteArray)(h:(s.data.toList.all λc=>c != 32)=true):∀ c∈s.data.toList,c≠32:=λc hc e=>by
 have:=List.all_eq_true.1 h c hc
 rw[e]at this
 exact absurd this (by decide)
theorem act_back {n:Nat}(hn:300000≤n)(hn2:n≤1048576*4){a:Act}(ha:AI n a)(h:(linS a).2=true):∃ b,ybk.f n (joinT (linS a).1)=some (b,0,())∧sameA a b=true:=by
 have hlen:=ha.len
 unfold linS at h ⊢
 by_cases h2:a.1=2
 ·rw[if_pos h2]at h ⊢
  rw[Bool.and_eq_true]at h
  obtain⟨g1,g2⟩:=h
  have g1:(askS a.2.1).2=0:=beq_iff_eq.1 g1
  obtain⟨_,i1,i2,i3⟩:=bareB_is g2
  refine⟨_,act_of ?_ ?_ (read_ask (ask_back (by omega) (by omega) ha.q g1)),sameA_of h2 i1 i2 (sameQ_refl _) i3⟩
  ·intro w hw
   simp only[List.mem_cons,List.mem_nil_iff,or_false]at hw
   rcases hw with rfl | rfl
   ·exact lit_ns _ (by decide +kernel)
   ·exact hex_word
  ·have hl:=(ask_BB (n:=30000) (by omega) a.2.1).len
   have:=joinT_len (x:=askW) (l:=[xB++yaT (hexL (askS a.2.1).1)]) (c:=60000) (λy hy=>by
    obtain rfl:=List.mem_singleton.1 hy
    rw[ByteArray.size_append,yah,hexL_len];change 1+_≤_;omega)
   change _≤3+1*(60000+1) at this
   omega
 rw[if_neg h2]at h ⊢
 by_cases h3:a.1=3
 ·rw[if_pos h3]at h ⊢
  obtain⟨i0,i1,i2,i3⟩:=bareB_is h
  obtain⟨j1,j2⟩:=nums_itoa (l:=[a.2.2.1]) (λx hx=>by obtain rfl:=List.mem_singleton.1 hx;exact ha.t)
  have hr:=read_num (n:=n) (by omega) (w0:=clockW) (r:=[a.2.2.1].map itoaB) (by change 1<n;omega) (λs hs=>by
   have hs:s∈[itoaB a.2.2.1]:=hs
   obtain rfl:=List.mem_singleton.1 hs;have:=yc9 ha.t;omega) (by decide +kernel) (.inl (by decide +kernel))
  have e:numS clockW ([a.2.2.1].map itoaB)=(actT a.2.2.1,true):=by
   unfold numS
   rw[if_pos j1,if_neg (by decide +kernel),if_pos (by rfl),if_pos (by decide +kernel),j2];rfl
  rw[e]at hr
  refine⟨_,act_of ?_ ?_ hr,sameA_of h3 rfl i2 i0 i3⟩
  ·intro w hw
   simp only[List.mem_cons,List.mem_nil_iff,or_false]at hw
   rcases hw with rfl | rfl
   ·exact lit_ns _ (by decide +kernel)
   ·exact itoa_ns _
  ·have:=joinT_len (x:=clockW) (l:=[itoaB a.2.2.1]) (c:=21) (λy hy=>by
    obtain rfl:=List.mem_singleton.1 hy;exact yc9 ha.t)
   change _≤5+1*(21+1) at this
   change (joinT [clockW,itoaB a.2.2.1]).size<_
   omega
 rw[if_neg h3]at h ⊢
 by_cases h7:a.1=7
 ·rw[if_pos h7]at h ⊢
  obtain⟨i0,i1,i2,i3⟩:=bareB_is h
  obtain⟨j1,j2⟩:=nums_itoa (l:=[a.2.2.2.1]) (λx hx=>by obtain rfl:=List.mem_singleton.1 hx;exact ha.m)
  have hr:=read_num (n:=n) (by omega) (w0:=failW) (r:=[a.2.2.2.1].map itoaB) (by change 1<n;omega) (λs hs=>by
   have hs:s∈[itoaB a.2.2.2.1]:=hs
   obtain rfl:=List.mem_singleton.1 hs;have:=yc9 ha.m;omega) (by decide +kernel) (.inl (by decide +kernel))
  have e:numS failW ([a.2.2.2.1].map itoaB)=(actN a.2.2.2.1,true):=by
   unfold numS
   rw[if_pos j1,if_neg (by decide +kernel),if_pos (by rfl),if_neg (by decide +kernel),if_pos (by decide +kernel),j2];rfl
  rw[e]at hr
  refine⟨_,act_of ?_ ?_ hr,sameA_of h7 i1 rfl i0 i3⟩
  ·intro w hw
   simp only[List.mem_cons,List.mem_nil_iff,or_false]at hw
   rcases hw with rfl | rfl
   ·exact lit_ns _ (by decide +kernel)
   ·exact itoa_ns _
  ·have:=joinT_len (x:=failW) (l:=[itoaB a.2.2.2.1]) (c:=21) (λy hy=>by
    obtain rfl:=List.mem_singleton.1 hy;exact yc9 ha.m)
   change _≤4+1*(21+1) at this
   change (joinT [failW,itoaB a.2.2.2.1]).size<_
   omega
 rw[if_neg h7]at h ⊢
 by_cases h8:a.1=8
 ·rw[if_pos h8]at h ⊢
  rw[Bool.and_eq_true,Bool.and_eq_true]at h
  obtain⟨g1,g2,g3⟩:=h
  have g2:=of_decide_eq_true g2
  have g3:=of_decide_eq_true g3
  obtain⟨i0,_,_,_⟩:=bareB_is g1
  obtain⟨j1,j2⟩:=nums_itoa (l:=a.2.2.2.1::a.2.2.1::a.2.2.2.2.1) (λx hx=>by
   rcases List.mem_cons.1 hx with rfl | hx
   ·exact ha.m
   rcases List.mem_cons.1 hx with rfl | hx
   ·exact ha.t
   exact ha.ks x hx)
  have hr:=read_num (n:=n) (by omega) (w0:=crashW) (r:=(a.2.2.2.1::a.2.2.1::a.2.2.2.2.1).map itoaB) (by rw[List.length_map,List.length_cons,List.length_cons];omega) (λs hs=>by
   obtain⟨x,hx,rfl⟩:=List.mem_map.1 hs
   have:(itoaB x).size≤21:=by
    rcases List.mem_cons.1 hx with rfl | hx
    ·exact yc9 ha.m
    rcases List.mem_cons.1 hx with rfl | hx
    ·exact yc9 ha.t
    exact yc9 (ha.ks x hx)
   omega) (by decide +kernel) (.inl (by decide +kernel))
  have e:numS crashW ((a.2.2.2.1::a.2.2.1::a.2.2.2.2.1).map itoaB)=((8,(qZ,(a.2.2.1,(a.2.2.2.1,(a.2.2.2.2.1,()))))),true):=by
   unfold numS
   rw[if_pos j1,if_pos (by decide +kernel),j2]
   unfold crashS
   rw[if_neg (by
    rintro (g | g | g)
    ·rw[List.length_cons,List.length_cons]at g;omega
    ·have g:a.2.2.1<0:=g;omega
    ·have g:a.2.2.1>255:=g;omega)]
   rfl
  rw[e]at hr
  refine⟨_,act_of ?_ ?_ hr,sameA_of h8 rfl rfl i0 rfl⟩
  ·intro w hw
   rcases List.mem_cons.1 hw with rfl | hw
   ·exact lit_ns _ (by decide +kernel)
   ·obtain⟨x,_,rfl⟩:=List.mem_map.1 (show w∈(a.2.2.2.1::a.2.2.1::a.2.2.2.2.1).map itoaB from hw)
    exact itoa_ns _
  ·have:=joinT_len (x:=crashW) (l:=(a.2.2.2.1::a.2.2.1::a.2.2.2.2.1).map itoaB) (c:=21) (λy hy=>by
    obtain⟨x,hx,rfl⟩:=List.mem_map.1 hy
    rcases List.mem_cons.1 hx with rfl | hx
    ·exact yc9 ha.m
    rcases List.mem_cons.1 hx with rfl | hx
    ·exact yc9 ha.t
    exact yc9 (ha.ks x hx))
   rw[List.length_map,List.length_cons,List.length_cons]at this
   have h5:crashW.size=5:=rfl
   change (joinT (crashW::(a.2.2.2.1::a.2.2.1::a.2.2.2.2.1).map itoaB)).size<_
   omega
 rw[if_neg h8]at h ⊢
 rw[Bool.and_eq_true]at h
 obtain⟨g1,g2⟩:=h
 obtain⟨i0,i1,i2,i3⟩:=bareB_is g2
 have hk:a.1=1∨a.1=4∨a.1=5∨a.1=6:=by
  by_cases k1:a.1=1
  ·exact .inl k1
  by_cases k4:a.1=4
  ·exact .inr (.inl k4)
  by_cases k5:a.1=5
  ·exact .inr (.inr (.inl k5))
  by_cases k6:a.1=6
  ·exact .inr (.inr (.inr k6))
  unfold wordB at g1
  rw[if_neg k1,if_neg k4,if_neg k5,if_neg k6,ybM]at g1
  exact nomatch g1
 have hw:(smGet wordsL (wordB a.1))=(a.1,true):=by rcases hk with e | e | e | e<;>(rw[e];decide +kernel)
 have hr:=read_word (n:=n) (w0:=wordB a.1) (r:=[]) (by rw[hw])
 rw[hw]at hr
 refine⟨_,act_of ?_ ?_ hr,sameA_of rfl i1 i2 i0 i3⟩
 ·intro w hw
  obtain rfl:=List.mem_singleton.1 hw
  rcases hk with e | e | e | e<;>(rw[e];exact lit_ns _ (by decide +kernel))
 ·rw[yfr]
  rcases hk with e | e | e | e<;>(rw[e];decide +kernel)
theorem AI_z {n:Nat}(h:300≤n)(k:Int):AI n (actZ k):=AI_of h (bdQ_z h) I64_0 I64_0 (by change 0+2<n;omega) (λz hz=>nomatch hz)
theorem reads_J {n:Nat}(hn:300000≤n)(hn2:n≤1048576*4){s:ByteArray}(hs:s.size<n):ybH.J1 n (s,())=some (true,()):=by
 rw[ybH.e1]
 rcases act_any (by omega) (by omega) hs with h | ⟨b,h1,h2,h3,h4⟩
 ·rw[h,yab,awakeS hn (by omega)]
  have hz:=law_same (n:=n) (a:=actZ 0) (b:=actZ 0) (by omega) (by omega) (AI_z (by omega) 0).q.1 (by change 0<n;omega)
  rw[sameA_refl]at hz
  change bIf (hide ((5:Int) != 0)) (bnd (some (true,())) λu2=>bIf u2.1 (bIf (hide ((5:Int)==5)) (bnd (yc4.f n (actZ 0) (actZ 0)) λu3=>some (u3.1,())) _) _) _=_
  rw[hz,yaJ,yaJ,show ((5:Int) != 0)=true from rfl,yaq,yab,yaq,show ((5:Int)==5)=true from rfl,yaq,yab]
 ·rw[h1,yab,awakeS hn (by omega)]
  have hl:=law_line hn (by omega) h2
  rw[h3,h4]at hl
  change bIf (hide ((0:Int) != 0)) _ (bnd (ycp.f n b) λu4=>bnd (some (true,())) λu5=>bIf u5.1 (bIf u4.2.1 (some (hide (eqS u4.1 s),())) _) _)=_
  rw[hl,yaJ,show ((0:Int) != 0)=false from rfl,yak,yab,yab,yaq,yaq,yaJ,ybM]
theorem lawReads {n:Nat}(hn:300000≤n)(hn2:n≤1048576*4){a:Act}(ha:AI n a){s:ByteArray}(hs:s.size<n):ybH.f n a s=some (true,()):=by
 have hlen:=ha.len
 rw[ybH.e0,law_line hn (by omega) ha,yab,reads_J hn hn2 hs]
 try dsimp only
 cases h:(linS a).2
 ·rw[yak]
 ·obtain⟨b,h1,h2⟩:=act_back hn hn2 ha h
  rw[yaq,h1,yab]
  have hz:=law_same (n:=n) (a:=a) (b:=b) (by omega) (by omega) ha.q.1 (by omega)
  rw[h2]at hz
  change bIf (hide ((0:Int) != 0)) _ (bnd (yc4.f n a b) λu3=>bIf (!u3.1) _ _)=_
  rw[hz,yaJ,show ((0:Int) != 0)=false from rfl,yak,yab,Bool.not_true,yak]
end Go.Proofs.YtdlkpmohjhjmfaaGreatDoor

namespace Go.Proofs.YtdlkpmohjhjmfaaGreatDoor
open Go Go.Va Go.Proofs
def fi:List UInt8→Nat
 | []=>0
 | x::r=>if x=10 then 0 else fi r+1
end Go.Proofs.YtdlkpmohjhjmfaaGreatDoor

namespace Go.Proofs.YtdlkpmohjhjmfaaGreatDoor
open Go Go.Va Go.Proofs Go.ChangeShapes Go.WideShapes Go.ChangeAt Go.RowKit
theorem vol_Q (e:Q):vol yan e=1+(e.2.1.size+1+(e.2.2.1.size+1+(e.2.2.2.1.size+1+(1+(((e.2.2.2.2.2.1.map (vol (.int .u8))).sum+1)+(((e.2.2.2.2.2.2.1.map (vol yaw)).sum+1)+(vol yaN e.2.2.2.2.2.2.2.1+(1+(vol yaA e.2.2.2.2.2.2.2.2.2.1+(((e.2.2.2.2.2.2.2.2.2.2.1.map (vol yaC)).sum+1)+(((e.2.2.2.2.2.2.2.2.2.2.2.1.map (vol yaD)).sum+1)+(1+(((e.2.2.2.2.2.2.2.2.2.2.2.2.2.1.map (vol (.int .i64))).sum+1)+(e.2.2.2.2.2.2.2.2.2.2.2.2.2.2.1.size+1+(e.2.2.2.2.2.2.2.2.2.2.2.2.2.2.2.1.size+1+(e.2.2.2.2.2.2.2.2.2.2.2.2.2.2.2.2.1.size+1+((e.2.2.2.2.2.2.2.2.2.2.2.2.2.2.2.2.2.1.1.size+1+(e.2.2.2.2.2.2.2.2.2.2.2.2.2.2.2.2.2.1.2.1.size+1+1))+(1+0)))))))))))))))))):=rfl
theorem Wf_Q {e:Q}(hw:Wf yan e):Wf (.int .i64) e.1∧Wf .str e.2.1∧Wf .str e.2.2.1∧Wf .str e.2.2.2.1∧Wf (.int .u64) e.2.2.2.2.1∧Wf (.slice (.int .u8)) e.2.2.2.2.2.1∧Wf (.slice yaw) e.2.2.2.2.2.2.1∧Wf yaN e.2.2.2.2.2.2.2.1∧Wf .bool e.2.2.2.2.2.2.2.2.1∧Wf yaA e.2.2.2.2.2.2.2.2.2.1∧Wf (.slice yaC) e.2.2.2.2.2.2.2.2.2.2.1∧Wf (.slice yaD) e.2.2.2.2.2.2.2.2.2.2.2.1∧Wf (.int .i64) e.2.2.2.2.2.2.2.2.2.2.2.2.1∧Wf (.slice (.int .i64)) e.2.2.2.2.2.2.2.2.2.2.2.2.2.1∧Wf .str e.2.2.2.2.2.2.2.2.2.2.2.2.2.2.1∧Wf .str e.2.2.2.2.2.2.2.2.2.2.2.2.2.2.2.1∧Wf .str e.2.2.2.2.2.2.2.2.2.2.2.2.2.2.2.2.1∧Wf yaY e.2.2.2.2.2.2.2.2.2.2.2.2.2.2.2.2.2.1∧Wf (.int .i64) e.2.2.2.2.2.2.2.2.2.2.2.2.2.2.2.2.2.2.1∧True:=hw
theorem Q_B {n:Nat}{e:Q}(hi:0≤e.2.2.2.2.1)(hf:0≤e.2.2.2.2.2.2.2.2.2.2.2.2.2.2.2.2.2.1.2.2.1)(h:vol yan e<n):QB n e:=by
 rw[vol_Q]at h
 have p0:=h
 have c_k:=Nat.lt_of_le_of_lt (Nat.le_add_right _ _) p0
 have p1:=Nat.lt_of_le_of_lt (Nat.le_add_left _ _) p0
 have c_w:=Nat.lt_of_le_of_lt (Nat.le_add_right _ _) p1
 have p2:=Nat.lt_of_le_of_lt (Nat.le_add_left _ _) p1
 have c_b:=Nat.lt_of_le_of_lt (Nat.le_add_right _ _) p2
 have p3:=Nat.lt_of_le_of_lt (Nat.le_add_left _ _) p2
 have c_y:=Nat.lt_of_le_of_lt (Nat.le_add_right _ _) p3
 have p4:=Nat.lt_of_le_of_lt (Nat.le_add_left _ _) p3
 have c_i:=Nat.lt_of_le_of_lt (Nat.le_add_right _ _) p4
 have p5:=Nat.lt_of_le_of_lt (Nat.le_add_left _ _) p4
 have c_bo:=Nat.lt_of_le_of_lt (Nat.le_add_right _ _) p5
 have p6:=Nat.lt_of_le_of_lt (Nat.le_add_left _ _) p5
 have c_tg:=Nat.lt_of_le_of_lt (Nat.le_add_right _ _) p6
 have p7:=Nat.lt_of_le_of_lt (Nat.le_add_left _ _) p6
 have c_l:=Nat.lt_of_le_of_lt (Nat.le_add_right _ _) p7
 have p8:=Nat.lt_of_le_of_lt (Nat.le_add_left _ _) p7
 have c_q:=Nat.lt_of_le_of_lt (Nat.le_add_right _ _) p8
 have p9:=Nat.lt_of_le_of_lt (Nat.le_add_left _ _) p8
 have c_d:=Nat.lt_of_le_of_lt (Nat.le_add_right _ _) p9
 have p10:=Nat.lt_of_le_of_lt (Nat.le_add_left _ _) p9
 have c_r:=Nat.lt_of_le_of_lt (Nat.le_add_right _ _) p10
 have p11:=Nat.lt_of_le_of_lt (Nat.le_add_left _ _) p10
 have c_g:=Nat.lt_of_le_of_lt (Nat.le_add_right _ _) p11
 have p12:=Nat.lt_of_le_of_lt (Nat.le_add_left _ _) p11
 have c_nu:=Nat.lt_of_le_of_lt (Nat.le_add_right _ _) p12
 have p13:=Nat.lt_of_le_of_lt (Nat.le_add_left _ _) p12
 have c_ns:=Nat.lt_of_le_of_lt (Nat.le_add_right _ _) p13
 have p14:=Nat.lt_of_le_of_lt (Nat.le_add_left _ _) p13
 have c_af:=Nat.lt_of_le_of_lt (Nat.le_add_right _ _) p14
 have p15:=Nat.lt_of_le_of_lt (Nat.le_add_left _ _) p14
 have c_pr:=Nat.lt_of_le_of_lt (Nat.le_add_right _ _) p15
 have p16:=Nat.lt_of_le_of_lt (Nat.le_add_left _ _) p15
 have c_ma:=Nat.lt_of_le_of_lt (Nat.le_add_right _ _) p16
 have p17:=Nat.lt_of_le_of_lt (Nat.le_add_left _ _) p16
 have c_fr:=Nat.lt_of_le_of_lt (Nat.le_add_right _ _) p17
 have p18:=Nat.lt_of_le_of_lt (Nat.le_add_left _ _) p17
 have c_mx:=Nat.lt_of_le_of_lt (Nat.le_add_right _ _) p18
 have p19:=Nat.lt_of_le_of_lt (Nat.le_add_left _ _) p18
 clear h p0 p1 p2 p3 p4 p5 p6 p7 p8 p9 p10 p11 p12 p13 p14 p15 p16 p17 p18 p19
 have l1:=vol_len (e:=yaC) (l:=e.2.2.2.2.2.2.2.2.2.2.1) (λx _=>by rw[vol_Rule];omega)
 have l2:=vol_len (e:=yaD) (l:=e.2.2.2.2.2.2.2.2.2.2.2.1) (λx _=>by rw[vol_Grant];omega)
 have l3:=vol_len (e := .int .u8) (l:=e.2.2.2.2.2.1) (λx _=>Nat.le_refl 1)
 have l4:=vol_len (e := .int .i64) (l:=e.2.2.2.2.2.2.2.2.2.2.2.2.2.1) (λx _=>Nat.le_refl 1)
 have b1:=Nat.lt_of_succ_lt c_r
 have b2:=Nat.lt_of_succ_lt c_g
 exact⟨Nat.lt_of_succ_lt c_w,Nat.lt_of_succ_lt c_b,Nat.lt_of_succ_lt c_y,hi,Nat.lt_of_le_of_lt l3 (Nat.lt_of_succ_lt c_bo),Ts_of (Nat.lt_of_succ_lt c_tg),⟨Nat.lt_of_le_of_lt l1 b1,λx hx=>by
  have:=Nat.lt_of_le_of_lt (vol_mem (e:=yaC) hx) b1
  rw[vol_Rule]at this
  clear c_k c_w c_b c_y c_i c_bo c_tg c_l c_q c_d c_r c_g c_nu c_ns c_af c_pr c_ma c_fr c_mx l1 l2 l3 l4 b1 b2
  exact⟨by omega,Ts_of (by omega)⟩⟩,⟨Nat.lt_of_le_of_lt l2 b2,λx hx=>by
  have:=Nat.lt_of_le_of_lt (vol_mem (e:=yaD) hx) b2
  rw[vol_Grant]at this
  clear c_k c_w c_b c_y c_i c_bo c_tg c_l c_q c_d c_r c_g c_nu c_ns c_af c_pr c_ma c_fr c_mx l1 l2 l3 l4 b1 b2
  exact⟨by omega,by omega,by omega⟩⟩,Nat.lt_of_le_of_lt l4 (Nat.lt_of_succ_lt c_ns),Nat.lt_of_succ_lt c_af,Nat.lt_of_succ_lt c_pr,Nat.lt_of_succ_lt c_ma,Nat.lt_of_succ_lt (Nat.lt_of_le_of_lt (Nat.le_add_right _ _) c_fr),Nat.lt_of_succ_lt (Nat.lt_of_le_of_lt (Nat.le_add_right _ _) (Nat.lt_of_le_of_lt (Nat.le_add_left _ _) c_fr)),hf⟩
theorem Q_ofW {n:Nat}{e:Q}(hw:Wf yan e)(h:vol yan e<n):bdQ n e:=by
 obtain⟨w1,w2,w3,w4,w5,w6,w7,w8,w9,w10,w11,w12,w13,w14,w15,w16,w17,w18,w19,w20⟩:=Wf_Q hw
 exact⟨Q_B (u64_of w5).1 (u64_of w18.2.2.1).1 h,⟨u64_of w5,i64_of w8.2.1,u64_of w18.2.2.1,λx hx=>i64_of (w14.2 x hx)⟩,λx hx=>u8_of (w6.2 x hx)⟩
def dQ {H:Type}:DataW H := .agg [.lit (.int .i64 0),.lit (.string []),.lit (.string []),.lit (.string []),.lit (.int .u64 0),.nil,.nil,.agg [.lit (.int .i64 0),.lit (.int .i64 0),.lit (.bool false)],.lit (.bool false),.agg [.lit (.int .i64 0),.lit (.int .i64 0)],.nil,.nil,.lit (.int .i64 0),.nil,.lit (.string []),.lit (.string []),.lit (.string []),.agg [.lit (.string []),.lit (.string []),.lit (.int .u64 0)],.lit (.int .i64 0)]
theorem vol_Act (a:Act):vol ybd a=1+(vol yan a.2.1+(1+(1+(((a.2.2.2.2.1.map (vol (.int .i64))).sum+1)+0)))):=rfl
theorem Wf_Act {a:Act}(hw:Wf ybd a):Wf (.int .i64) a.1∧Wf yan a.2.1∧Wf (.int .i64) a.2.2.1∧Wf (.int .i64) a.2.2.2.1∧Wf (.slice (.int .i64)) a.2.2.2.2.1∧True:=hw
theorem A_ofW {n:Nat}{a:Act}(hw:Wf ybd a)(h:vol ybd a<n):AI n a:=by
 obtain⟨w1,w2,w3,w4,w5,w6⟩:=Wf_Act hw
 rw[vol_Act]at h
 have l1:=vol_len (e := .int .i64) (l:=a.2.2.2.2.1) (λx _=>Nat.le_refl 1)
 exact⟨Q_ofW w2 (by omega),i64_of w3,i64_of w4,by omega,λx hx=>i64_of (w5.2 x hx)⟩
theorem S_ofW {n:Nat}{s:ByteArray}(h:vol .str s<n):s.size<n:=Nat.lt_of_succ_lt h
def zA:Array Value := #[Value.int IntKind.i64 0,Value.int IntKind.i64 0,Value.string ⟨#[]⟩,Value.string ⟨#[]⟩,Value.string ⟨#[]⟩,Value.int IntKind.u64 0,Value.slice none 0 0,Value.slice none 0 0,Value.int IntKind.i64 0,Value.int IntKind.i64 0,Value.bool false,Value.bool false,Value.int IntKind.i64 0,Value.int IntKind.i64 0,Value.slice none 0 0,Value.slice none 0 0,Value.int IntKind.i64 0,Value.slice none 0 0,Value.string ⟨#[]⟩,Value.string ⟨#[]⟩,Value.string ⟨#[]⟩,Value.string ⟨#[]⟩,Value.string ⟨#[]⟩,Value.int IntKind.u64 0,Value.int IntKind.i64 0,Value.int IntKind.i64 0,Value.int IntKind.i64 0,Value.slice none 0 0]
def dA {H:Type}:DataW H := .agg [.lit (.int .i64 0),dQ,.lit (.int .i64 0),.lit (.int .i64 0),.nil]
theorem noHandle {W:World}(h:laidMetH Tryz.prog laidAll W):laidMet Tryz.prog laidAll W:=by
 have e:(laidAll.filter λx=>x.2.handleName?.isSome)=[]:=by kernel_rfl
 unfold laidMetH at h
 rw[e]at h
 exact h
end Go.Proofs.YtdlkpmohjhjmfaaGreatDoor

