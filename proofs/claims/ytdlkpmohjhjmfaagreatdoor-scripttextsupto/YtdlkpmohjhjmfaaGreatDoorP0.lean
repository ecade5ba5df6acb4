/-
  The plain laws.
-/
import Derived.Test.YtdlkpmohjhjmfaaGreatDoorF0
import Derived.Test.YtdlkpmohjhjmfaaGreatDoorVaPlain
import Derived.Lib.MapLaws
import Derived.Test.YtdlkpmohjhjmfaaGreatDoorF1
set_option linter.unusedVariables false
set_option linter.unusedSimpArgs false
namespace Go.Proofs.YtdlkpmohjhjmfaaGreatDoor
open Go Go.Va Go.Proofs
def ok32 (b:UInt8):Bool:=decide (32≤b.toNat)&&decide (b.toNat≠127)
def yd0 (s:ByteArray):Bool:=s.data.toList.all ok32&&Lib.validD s.data.toList
theorem yab {α β:Type}(a:α)(f:α→Option β):bnd (some a) f=f a:=rfl
theorem all_drop (l:List UInt8)(k:Nat)(h:k<l.length):(l.drop k).all ok32=(ok32 (l.getD k 0)&&(l.drop (k+1)).all ok32):=by
 rw[List.drop_eq_getElem_cons h,List.all_cons,List.getD_eq_getElem?_getD,List.getElem?_eq_getElem h]
 rfl
theorem ok32_hi {b:UInt8}(h:128≤b.toNat):ok32 b=true:=by
 unfold ok32;rw[decide_eq_true (by omega),decide_eq_true (by omega)];rfl
theorem getD_dropA (l:List UInt8)(k i:Nat):(l.drop k).getD i 0=l.getD (k+i) 0:=by
 rw[List.getD_eq_getElem?_getD,List.getD_eq_getElem?_getD,List.getElem?_drop]
theorem bt_nat (s:ByteArray)(k:Nat):bt s (k:Int)=((s.data.toList.getD k 0).toNat:Int):=rfl
theorem clean42_J (n:Nat)(s:ByteArray)(hs:s.size≤1073741824):∀ (m k:Nat),k≤s.size→s.size-k<m →
  ybk.J1 n m (s,ybN s,(((ybN s).length:Nat):Int),(k:Int),())=some ((s.data.toList.drop k).all ok32&&Lib.validD s.data.toList,())
 | 0,k,_,h=>by omega
 | m+1,k,hk,h=>by
  have hsz:=yfj s
  have hl:=size_of s
  rw[ybk.e1]
  simp only[yap,ydC,yei,Nat.zero_add]
  by_cases hlt:k<s.size
  ·rw[if_pos (decide_eq_true (by omega)),if_pos ⟨by omega,by omega⟩,all_drop _ _ (by omega),yb6 (by omega)]
   have hb:(ybN s).getD (k:Int).toNat 0=((s.data.toList.getD k 0).toNat:Int):=by rw[← bt_getD];rfl
   rw[hb]
   have ih:=clean42_J n s hs m (k+1) (by omega) (by omega)
   rw[show (((k+1:Nat):Int))=(k:Int)+1 by omega]at ih
   rw[ih]
   generalize s.data.toList.getD k 0=b
   unfold ok32
   by_cases h1:b.toNat<32
   ·rw[if_pos (decide_eq_true (by omega)),decide_eq_false (by omega)];rfl
   ·rw[if_neg (by simp;omega),decide_eq_true (by omega)]
    by_cases h2:b.toNat=127
    ·rw[if_pos (by rw[beq_iff_eq];omega),decide_eq_false (by omega)];rfl
    ·rw[if_neg (by rw[beq_iff_eq];omega),decide_eq_true (by omega)];simp
  ·rw[if_neg (by simp;omega)]
   have hkk:k=s.size:=by omega
   subst hkk
   rw[hsz,List.drop_length]
   rw[ybk.e2]
   unfold ydd.f
   rw[if_pos (by omega),yab]
   rfl
theorem ydL {n:Nat}{s:ByteArray}(hs:s.size≤1073741824)(hn:s.size<n):ybk.f n s=some (yd0 s,()):=by
 rw[ybk.e0]
 change ybk.J1 n n (s,ybN s,(((ybN s).length:Nat):Int),((0:Nat):Int),())=_
 rw[clean42_J n s hs n 0 (by omega) (by omega)]
 rfl
theorem step7 (n m:Nat)(r1:Nat)(s:ByteArray)(hs:s.size≤1073741824)(k:Nat)(hk:k≤s.size)(w:Nat)(hw:w≤4)(r:Nat)(hr:r<1048576)(least:Int)(i:Nat)(hi:i<w) :
  yaI.J7 n r1 (m+1) (s,(k:Int),(w:Int),(r:Int),least,(i:Int),()) =
   if k+i<s.size then
    if (s.data.toList.getD (k+i) 0).toNat/64=2 then yaI.J7 n r1 m (s,(k:Int),(w:Int),((r*64+(s.data.toList.getD (k+i) 0).toNat%64:Nat):Int),least,((i+1:Nat):Int),())
    else some (false,())
   else some (false,()):=by
 rw[yaI.e7]
 simp only[yap,ydC,yei]
 rw[if_pos (decide_eq_true (by omega)),yb6 (x:=(k:Int)+(i:Int)) (by omega)]
 rw[show ((k:Int)+(i:Int))=((k+i:Nat):Int) by omega,bt_nat]
 have hb:=(s.data.toList.getD (k+i) 0).toNat_lt
 generalize hB:(s.data.toList.getD (k+i) 0).toNat=b at hb ⊢
 by_cases h1:k+i<s.size
 ·rw[if_neg (by simp;omega),if_pos ⟨by omega,by omega⟩,if_pos h1]
  by_cases h2:b/64=2
  ·rw[if_neg (by simp;omega),if_pos ⟨by omega,by omega⟩,if_neg (by simp;omega),if_pos h2,yaI.e8]
   simp only[yei]
   rw[yb6 (x:=(k:Int)+(i:Int)) (by omega),show ((k:Int)+(i:Int))=((k+i:Nat):Int) by omega,bt_nat,hB,if_pos ⟨by omega,by omega⟩,yaI.e9]
   rw[yb6 (x:=(i:Int)+1) (by omega),yb6 (x:=(r:Int)*64) (by omega),yb6 (x:=(b:Int)) (by omega),yb6 (x:=(r:Int)*64+(b:Int)) (by omega),yb6 (by omega)]
   rw[show ((r:Int)*64+(b:Int)-128)=((r*64+b%64:Nat):Int) by omega]
   rfl
  ·rw[if_neg h2]
   by_cases h3:b<128
   ·rw[if_pos (decide_eq_true (by omega))]
   ·rw[if_neg (by simp;omega),if_pos ⟨by omega,by omega⟩,if_pos (decide_eq_true (by omega))]
 ·rw[if_pos (decide_eq_true (by omega)),if_neg h1]
theorem end7 (n m:Nat)(r1:Nat)(s:ByteArray)(hs:s.size≤1073741824)(k:Nat)(hk:k≤s.size)(w:Nat)(hw:w≤4)(r:Nat)(least:Nat) :
  yaI.J7 n r1 (m+1) (s,(k:Int),(w:Int),(r:Int),(least:Int),(w:Int),()) =
   if least≤r∧r≤1114111∧¬ (55296≤r∧r≤57343) then yaI.J1 n r1 (s,((k+w:Nat):Int),()) else some (false,()):=by
 rw[yaI.e7]
 simp only[yap,ydC,yei]
 rw[if_neg (by simp),yaI.e10]
 simp only[yap,ydC,yei]
 have e:yaI.J11 n r1 (s,(k:Int),(w:Int),())=yaI.J1 n r1 (s,((k+w:Nat):Int),()):=by
  rw[yaI.e11]
  rw[yb6 (by omega)];congr 2
 rw[e]
 by_cases h1:r<least
 ·rw[if_pos (decide_eq_true (by omega)),if_neg (by omega)]
 ·rw[if_neg (by simp;omega)]
  by_cases h2:1114111<r
  ·rw[if_pos (decide_eq_true (by omega)),if_neg (by omega)]
  ·rw[if_neg (by simp;omega)]
   by_cases h3:55296≤r
   ·rw[if_pos (decide_eq_true (by omega))]
    by_cases h4:r≤57343
    ·rw[if_pos (decide_eq_true (by omega)),if_neg (by omega)]
    ·rw[if_neg (by simp;omega),if_pos (by omega)]
   ·rw[if_neg (by simp;omega),if_pos (by omega)]
theorem sign44 (q:Nat)(r1:Nat)(s:ByteArray)(hs:s.size≤1073741824)(k:Nat)(hk:k<s.size)(b:Nat)(w:Nat)(hw:1≤w∧w≤4)(r:Nat)(hr:r<128)(least:Nat) :
  yaI.J5 (q+5) r1 (s,(k:Int),(b:Int),(w:Int),(r:Int),(least:Int),())=if 32≤b∧b≠127 then yaI.J7 (q+5) r1 (q+4+1) (s,(k:Int),(w:Int),(r:Int),(least:Int),((1:Nat):Int),()) else some (false,()):=by
 rw[yaI.e5]
 simp only[yap,ydC,yei]
 by_cases h1:b<32
 ·rw[if_pos (decide_eq_true (by omega)),if_neg (by omega)]
 ·rw[if_neg (by simp;omega)]
  by_cases h2:b=127
  ·rw[if_pos (by rw[beq_iff_eq];omega),if_neg (by omega)]
  ·rw[if_neg (by rw[beq_iff_eq];omega),if_pos (by omega)]
   rw[yaI.e6];rfl
theorem round44 (n m:Nat)(s:ByteArray)(hs:s.size≤1073741824)(k:Nat)(hk:k<s.size)(b:Nat)(hb:(s.data.toList.getD k 0).toNat=b) :
  yaI.J1 n (m+1) (s,(k:Int),()) =
   if b<128 then yaI.J5 n m (s,(k:Int),(b:Int),((1:Nat):Int),(b:Int),((0:Nat):Int),())
   else if 192≤b∧b<224 then yaI.J5 n m (s,(k:Int),(b:Int),((2:Nat):Int),((b-192:Nat):Int),((128:Nat):Int),())
   else if 224≤b∧b<240 then yaI.J5 n m (s,(k:Int),(b:Int),((3:Nat):Int),((b-224:Nat):Int),((2048:Nat):Int),())
   else if 240≤b∧b<248 then yaI.J5 n m (s,(k:Int),(b:Int),((4:Nat):Int),((b-240:Nat):Int),((65536:Nat):Int),())
   else some (false,()):=by
 have hb2:=(s.data.toList.getD k 0).toNat_lt
 rw[yaI.e1]
 simp only[yap,ydC,yei]
 rw[bt_nat,hb,yb6 (by omega),if_pos (decide_eq_true (by omega)),if_pos ⟨by omega,by omega⟩]
 by_cases h1:b<128
 ·rw[if_pos (decide_eq_true (by omega)),if_pos h1];rfl
 ·rw [if_neg (by simp;omega),if_neg h1]
  have hS2:∀ t:Bool,yaI.J2 n m (s,(k:Int),(b:Int),t,())=if t=true then yaI.J5 n m (s,(k:Int),(b:Int),2,(IntKind.i64.wrap ((b:Int)-192)),128,()) else if decide ((b:Int)≥224)=true then yaI.J3 n m (s,(k:Int),(b:Int),decide ((b:Int)<240),()) else yaI.J3 n m (s,(k:Int),(b:Int),false,()):=by
   intro t;rw[yaI.e2];simp only[yap,ydC,yei]
  have hS3:∀ t:Bool,yaI.J3 n m (s,(k:Int),(b:Int),t,())=if t=true then yaI.J5 n m (s,(k:Int),(b:Int),3,(IntKind.i64.wrap ((b:Int)-224)),2048,()) else if decide ((b:Int)≥240)=true then yaI.J4 n m (s,(k:Int),(b:Int),decide ((b:Int)<248),()) else yaI.J4 n m (s,(k:Int),(b:Int),false,()):=by
   intro t;rw[yaI.e3];simp only[yap,ydC,yei]
  have hS4:∀ t:Bool,yaI.J4 n m (s,(k:Int),(b:Int),t,())=if t=true then yaI.J5 n m (s,(k:Int),(b:Int),4,(IntKind.i64.wrap ((b:Int)-240)),65536,()) else some (false,()):=by
   intro t;rw[yaI.e4];simp only[yap,ydC,yei]
  simp only[hS2,hS3,hS4]
  by_cases h2:192≤b∧b<224
  ·rw[if_pos (decide_eq_true (by omega)),if_pos (decide_eq_true (by omega)),if_pos h2,yb6 (by omega),show ((b:Int)-192)=((b-192:Nat):Int) by omega];rfl
  ·rw[if_neg h2]
   by_cases h3:224≤b∧b<240
   ·rw[if_pos (decide_eq_true (by omega)),if_neg (by simp;omega),if_pos (decide_eq_true (by omega)),if_pos (decide_eq_true (by omega)),if_pos h3,yb6 (x:=(b:Int)-224) (by omega),show ((b:Int)-224)=((b-224:Nat):Int) by omega];rfl
   ·rw[if_neg h3]
    by_cases h4:240≤b∧b<248
    ·rw[if_pos (decide_eq_true (by omega)),if_neg (by simp;omega),if_pos (decide_eq_true (by omega)),if_neg (by simp;omega),if_pos (decide_eq_true (by omega)),if_pos (decide_eq_true (by omega)),if_pos h4,yb6 (x:=(b:Int)-240) (by omega),show ((b:Int)-240)=((b-240:Nat):Int) by omega];rfl
    ·rw[if_neg h4]
     split<;>(simp only[decide_eq_true_eq,Bool.false_eq_true,if_false,ge_iff_le];repeat' split)<;>first | rfl | (exfalso;simp_all;omega) | (exfalso;omega)
theorem clean44_J (q:Nat) (s:ByteArray) (hs:s.size≤1073741824):∀ (m k:Nat),k≤s.size→s.size-k<m →
  yaI.J1 (q+5) m (s,(k:Int),())=some ((s.data.toList.drop k).all ok32&&Lib.validD (s.data.toList.drop k),())
 | 0,k,_,h=>by omega
 | m + 1, k,hk,h=>by
  have hsz:=yfj s
  by_cases hlt:k<s.size
  ·obtain ⟨b,hb⟩:∃ b,(s.data.toList.getD k 0).toNat=b:=⟨_,rfl⟩
   have hb0:=(s.data.toList.getD k 0).toNat_lt
   have hb1:=(s.data.toList.getD (k+1) 0).toNat_lt
   have hb2:=(s.data.toList.getD (k+2) 0).toNat_lt
   have hb3:=(s.data.toList.getD (k+3) 0).toNat_lt
   have ih1:=λh'=>clean44_J q s hs m (k+1) h' (by omega)
   have ih2:=λh'=>clean44_J q s hs m (k+2) h' (by omega)
   have ih3:=λh'=>clean44_J q s hs m (k+3) h' (by omega)
   have ih4:=λh'=>clean44_J q s hs m (k+4) h' (by omega)
   rw[round44 (q+5) m s hs k hlt b hb]
   have hne:s.data.toList.drop k≠[]:=by
    intro e;have:=congrArg List.length e;rw[List.length_drop]at this;simp at this;omega
   rw[Lib.validD_step _ hne,Lib.decodeL_N,List.length_drop,← hsz]
   simp only[getD_dropA,List.drop_drop,Nat.add_zero]
   have a1:=λh'=>all_drop s.data.toList (k+1) h'
   have a2:=λh'=>all_drop s.data.toList (k+2) h'
   have a3:=λh'=>all_drop s.data.toList (k+3) h'
   rw[all_drop s.data.toList k (by omega)]
   have o0:128≤b→ok32 (s.data.toList.getD k 0)=true:=λh'=>ok32_hi (by omega)
   have o1:128≤(s.data.toList.getD (k+1) 0).toNat→ok32 (s.data.toList.getD (k+1) 0)=true:=λh'=>ok32_hi h'
   have o2:128≤(s.data.toList.getD (k+2) 0).toNat→ok32 (s.data.toList.getD (k+2) 0)=true:=λh'=>ok32_hi h'
   have o3:128≤(s.data.toList.getD (k+3) 0).toNat→ok32 (s.data.toList.getD (k+3) 0)=true:=λh'=>ok32_hi h'
   have s1:=λ(w:Nat) hw r hr least hi=>step7 (q+5) (q+4) m s hs k hk w hw r hr least 1 hi
   have s2:=λ(w:Nat) hw r hr least hi=>step7 (q+5) (q+3) m s hs k hk w hw r hr least 2 hi
   have s3:=λ(w:Nat) hw r hr least hi=>step7 (q+5) (q+2) m s hs k hk w hw r hr least 3 hi
   rw[hb]at hb0 ⊢
   generalize (s.data.toList.getD (k+1) 0).toNat=b1 at hb1 o1 s1 ⊢
   generalize (s.data.toList.getD (k+2) 0).toNat=b2 at hb2 o2 s2 ⊢
   generalize (s.data.toList.getD (k+3) 0).toNat=b3 at hb3 o3 s3 ⊢
   obtain⟨D,hD⟩:∃ D,Lib.decodeN (s.size-k) b b1 b2 b3=D:=⟨_,rfl⟩
   rw[hD]
   unfold Lib.decodeN at hD
   have hbad:D=(65533,1)→∀ x y:Bool,(some (x&&y&&(if D.1=65533∧D.2=1 then false else Lib.validD (s.data.toList.drop (k+D.2))),()):Option yaI.R)=some (false,()):=by
    rintro rfl x y;rw[if_pos ⟨rfl,rfl⟩,Bool.and_false]
   have hgood:∀ r w,D=(r,w)→w≠1∨r≠65533→(if D.1=65533∧D.2=1 then false else Lib.validD (s.data.toList.drop (k+D.2)))=Lib.validD (s.data.toList.drop (k+w)):=by
    rintro r w rfl h'; rw[if_neg (by simp only;omega)]
   by_cases h1:b<128
   ·rw[if_pos h1]at hD
    rw[if_pos h1,sign44 q m s hs k hlt b 1 (by omega) b h1 0,end7 (q+5) (q+4) m s hs k hk 1 (by omega) b 0]
    rw[hgood b 1 hD.symm (by omega),if_pos (by omega:0≤b∧b≤1114111∧¬ (55296≤b∧b≤57343)),ih1 (by omega)]
    unfold ok32
    rw[hb]
    by_cases hc:32≤b∧b≠127
    ·rw[if_pos hc,decide_eq_true hc.1,decide_eq_true hc.2];rfl
    ·rw[if_neg hc]
     have:(decide (32≤b)&&decide (b≠127))=false:=by simp;omega
     rw[this];rfl
   ·rw [if_neg h1]at hD ⊢
    rw[o0 (by omega)]
    by_cases h2:192≤b∧b<224
    ·rw[if_pos h2,sign44 q m s hs k hlt b 2 (by omega) (b-192) (by omega) 128,if_pos (by omega),s1 2 (by omega) (b-192) (by omega) _ (by omega),end7 (q+5) (q+3) m s hs k hk 2 (by omega)]
     by_cases c:k+1<s.size∧b1/64=2
     ·rw[if_pos ⟨by omega,by omega,c.2⟩]at hD
      rw[if_pos c.1,if_pos c.2]
      have er:(b-192)*64+b1%64=b%32*64+b1%64:=by omega
      rw[er]
      have hrr:b%32*64+b1%64<2048:=by omega
      generalize b%32*64+b1%64=rr at hD hrr ⊢
      by_cases c3:rr≥128
      ·rw[if_pos c3]at hD
       rw[if_pos (by omega:128≤rr∧rr≤1114111∧¬ (55296≤rr∧rr≤57343)),hgood _ _ hD.symm (by omega),ih2 (by omega),a1 (by omega),o1 (by omega)];rfl
      ·rw[if_neg c3]at hD
       rw[if_neg (by omega:¬ (128≤rr∧rr≤1114111∧¬ (55296≤rr∧rr≤57343))),hbad hD.symm]
     ·rw[if_neg (by omega),if_neg (by omega),if_neg (by omega)]at hD
      rw[hbad hD.symm]
      by_cases c3:k+1<s.size
      ·rw[if_pos c3,if_neg (by omega)]
      ·rw[if_neg c3]
    ·rw [if_neg h2]
     rw[if_neg (by omega)]at hD
     by_cases h3:224≤b∧b<240
     ·rw [if_pos h3,sign44 q m s hs k hlt b 3 (by omega) (b-224) (by omega) 2048,if_pos (by omega),s1 3 (by omega) (b-224) (by omega) _ (by omega)]
      by_cases c1:k+1<s.size∧b1/64=2
      ·rw[if_pos c1.1,if_pos c1.2,s2 3 (by omega) _ (by omega) _ (by omega),end7 (q+5) (q+2) m s hs k hk 3 (by omega)]
       by_cases c2:k+2<s.size∧b2/64=2
       ·rw[if_pos ⟨by omega,⟨by omega,c1.2⟩,by omega,c2.2⟩]at hD
        rw[if_pos c2.1,if_pos c2.2]
        have er:((b-224)*64+b1%64)*64+b2%64=b%16*4096+b1%64*64+b2%64:=by omega
        rw[er]
        generalize b%16*4096+b1%64*64+b2%64=rr at hD ⊢
        by_cases c3:rr≥2048∧(rr<55296∨57344≤rr∧rr≤1114111)
        ·rw[if_pos c3]at hD
         rw[if_pos (by omega:2048≤rr∧rr≤1114111∧¬ (55296≤rr∧rr≤57343)),hgood _ _ hD.symm (by omega),ih3 (by omega),a1 (by omega),o1 (by omega),a2 (by omega),o2 (by omega)];rfl
        ·rw[if_neg c3]at hD
         rw[if_neg (by omega:¬ (2048≤rr∧rr≤1114111∧¬ (55296≤rr∧rr≤57343))),hbad hD.symm]
       ·rw[if_neg (by omega),if_neg (by omega)]at hD
        rw[hbad hD.symm]
        by_cases c3:k+2<s.size
        ·rw[if_pos c3,if_neg (by omega)]
        ·rw[if_neg c3]
      ·rw[if_neg (by omega),if_neg (by omega)]at hD
       rw[hbad hD.symm]
       by_cases c3:k+1<s.size
       ·rw[if_pos c3,if_neg (by omega)]
       ·rw[if_neg c3]
     ·rw [if_neg h3]
      rw[if_neg (by omega)]at hD
      by_cases h4:240≤b∧b<248
      ·rw [if_pos h4,sign44 q m s hs k hlt b 4 (by omega) (b-240) (by omega) 65536,if_pos (by omega),s1 4 (by omega) (b-240) (by omega) _ (by omega)]
       by_cases c1:k+1<s.size∧b1/64=2
       ·rw [if_pos c1.1,if_pos c1.2,s2 4 (by omega) _ (by omega) _ (by omega)]
        by_cases c2:k+2<s.size∧b2/64=2
        ·rw[if_pos c2.1,if_pos c2.2,s3 4 (by omega) _ (by omega) _ (by omega),end7 (q+5) (q+1) m s hs k hk 4 (by omega)]
         by_cases c5:k+3<s.size∧b3/64=2
         ·rw[if_pos ⟨by omega,⟨by omega,c1.2⟩,⟨by omega,c2.2⟩,by omega,c5.2⟩]at hD
          rw[if_pos c5.1,if_pos c5.2]
          have er:(((b-240)*64+b1%64)*64+b2%64)*64+b3%64=b%8*262144+b1%64*4096+b2%64*64+b3%64:=by omega
          rw[er]
          generalize b%8*262144+b1%64*4096+b2%64*64+b3%64=rr at hD ⊢
          by_cases c3:rr≥65536∧(rr<55296∨57344≤rr∧rr≤1114111)
          ·rw[if_pos c3]at hD
           rw[if_pos (by omega:65536≤rr∧rr≤1114111∧¬ (55296≤rr∧rr≤57343)),hgood _ _ hD.symm (by omega),ih4 (by omega),a1 (by omega),o1 (by omega),a2 (by omega),o2 (by omega),a3 (by omega),o3 (by omega)];rfl
          ·rw[if_neg c3]at hD
           rw[if_neg (by omega:¬ (65536≤rr∧rr≤1114111∧¬ (55296≤rr∧rr≤57343))),hbad hD.symm]
         ·rw[if_neg (by omega)]at hD
          rw[hbad hD.symm]
          by_cases c3:k+3<s.size
          ·rw[if_pos c3,if_neg (by omega)]
          ·rw[if_neg c3]
        ·rw[if_neg (by omega)]at hD
         rw[hbad hD.symm]
         by_cases c3:k+2<s.size
         ·rw[if_pos c3,if_neg (by omega)]
         ·rw[if_neg c3]
       ·rw[if_neg (by omega)]at hD
        rw[hbad hD.symm]
        by_cases c3:k+1<s.size
        ·rw[if_pos c3,if_neg (by omega)]
        ·rw[if_neg c3]
      ·rw[if_neg (by omega)]at hD
       rw[if_neg h4,hbad hD.symm]
  ·have hkk:k=s.size:=by omega
   subst hkk
   rw[yaI.e1]
   simp only[yap,ydC,yei]
   rw[if_neg (by simp),hsz,List.drop_length]
   rw[yaI.e12];rfl
theorem clean44 {n:Nat}{s:ByteArray}(hs:s.size≤1073741824)(hn:s.size<n)(h5:5≤n):yaI.f n s=some (yd0 s,()):=by
 obtain⟨q,rfl⟩:∃ q,n=q+5:=⟨n-5,by omega⟩
 rw[yaI.e0]
 change yaI.J1 (q+5) (q+5) (s,((0:Nat):Int),())=_
 rw[clean44_J q s hs (q+5) 0 (by omega) (by omega)]
 rfl
end Go.Proofs.YtdlkpmohjhjmfaaGreatDoor
namespace Go.Proofs.YtdlkpmohjhjmfaaGreatDoor
open Go Go.Va Go.Proofs
theorem ba_beq (a b:ByteArray):(a==b)=decide (a=b):=by
 change (a.data==b.data)=_
 by_cases h:a=b
 ·subst h;simp
 ·rw[decide_eq_false h]
  exact beq_false_of_ne (λe=>h (by cases a;cases b;exact congrArg _ e))
theorem eqS_eq (a b:ByteArray):eqS a b=(a==b):=by
 unfold eqS
 rw[Lib.toList_data,Lib.toList_data,ba_beq]
 by_cases h:a=b
 ·subst h;simp
 ·rw[decide_eq_false h]
  exact beq_false_of_ne (λe=>h (by cases a;cases b;simp at e;rw[e]))
def clampI (t:Int):Int:=if t < -62135596800 then -62135596800 else if t>253402300799 then 253402300799 else t
theorem clamp33 (n:Nat)(t:Int):ydI.f n t=some (clampI t,()):=by
 rw[ydI.e0]
 unfold clampI maxI minI
 congr 2
 repeat' split
 all_goals omega
theorem clamp36 (n:Nat)(t:Int):yeb.f n t=some (clampI t,()):=by
 rw[yeb.e0]
 unfold clampI
 simp only[yap,ydC,decide_eq_true_eq]
 repeat' split
 all_goals first | rfl | omega
def lockB (l:yaZ):Bool:=
 if l.1=0 then l.2.1==0 else if l.1=1∨l.1=2 then l.2.1==clampI l.2.1 else false
theorem lock34 (n:Nat)(l:yaZ):ydy.f n l=some (lockB l,()):=by
 rw[ydy.e0]
 unfold lockB
 simp only[yap,ydC,ydy.e1,clamp33,yab,beq_iff_eq]
 by_cases h0:l.1=0
 ·rw[if_pos h0,if_pos h0]
 ·rw[if_neg h0,if_neg h0]
  by_cases h1:l.1=1
  ·rw[if_pos h1,if_pos (c:=l.1=1∨l.1=2) (.inl h1)];rfl
  ·rw[if_neg h1]
   by_cases h2:l.1=2
   ·rw[if_pos h2,if_pos (c:=l.1=1∨l.1=2) (.inr h2)]
   ·rw[if_neg h2,if_neg (c:=l.1=1∨l.1=2) (not_or.2 ⟨h1,h2⟩)]
theorem lock37 (n:Nat)(l:yaZ):yea.f n l=some (lockB l,()):=by
 rw[yea.e0]
 unfold lockB
 simp only[yap,ydC,clamp36,yab,beq_iff_eq]
 by_cases h0:l.1=0
 ·rw[if_pos h0,if_pos h0]
 ·rw[if_neg h0,if_neg h0]
  by_cases h1:l.1=1
  ·rw[if_pos h1,if_pos (c:=l.1=1∨l.1=2) (.inl h1),BEq.comm]
  ·rw[if_neg h1]
   by_cases h2:l.1=2
   ·rw[if_pos h2,if_pos (c:=l.1=1∨l.1=2) (.inr h2),BEq.comm]
   ·rw[if_neg h2,if_neg (c:=l.1=1∨l.1=2) (not_or.2 ⟨h1,h2⟩)]
theorem size0 (s:ByteArray):eqS s ⟨#[]⟩=decide (s.size=0):=by
 rw[eqS_eq,ba_beq]
 by_cases h:s=⟨#[]⟩
 ·subst h;rfl
 ·rw[decide_eq_false h,decide_eq_false]
  intro h2
  apply h
  cases s with | mk d=>
  have:d = #[]:=Array.eq_empty_of_size_eq_zero h2
  rw[this]
def tagB (t:yaz):Bool:=decide (1≤t.1.size)&&(decide (t.1.size≤64)&&(decide (t.2.1.size≤64)&&(yd0 t.1&&yd0 t.2.1)))
def TB (n:Nat)(t:yaz):Prop:=t.1.size<n∧t.2.1.size<n
theorem tag47 {n:Nat}{t:yaz}(h:TB n t)(hn:n≤536870912):ye0.f n t=some (tagB t,()):=by
 rw[ye0.e0]
 unfold tagB
 rw[ydL (by have:=h.1;omega) h.1,ydL (by have:=h.2;omega) h.2,size0]
 simp only[yap,ydC,yab]
 have e1:decide ((t.1.size:Int)≤64)=decide (t.1.size≤64):=decide_eq_decide.2 (by omega)
 have e2:decide ((t.2.1.size:Int)≤64)=decide (t.2.1.size≤64):=decide_eq_decide.2 (by omega)
 have e0:(!decide (t.1.size=0))=decide (1≤t.1.size):=by
  by_cases h0:t.1.size=0
  ·rw[decide_eq_true h0,decide_eq_false (by omega)];rfl
  ·rw[decide_eq_false h0,decide_eq_true (by omega)];rfl
 rw[e0,e1,e2]
 cases decide (1≤t.1.size)<;>cases decide (t.1.size≤64)<;>cases decide (t.2.1.size≤64)<;>cases yd0 t.1<;>simp
def chk {α:Type}(p:α→Bool)(q:α→α→Bool):Option α→List α→Bool
 | _,[]=>true
 | none,x::l=>p x&&chk p q (some x) l
 | some y,x::l=>p x&&(q y x&&chk p q (some x) l)
def prev {α:Type}(l:List α)(k:Nat):Option α:=if k=0 then none else l[k-1]?
theorem chk_zero {α:Type}{p:α→Bool}{q:α→α→Bool}{l:List α}{d:α}(h:0<l.length):chk p q (prev l 0) (l.drop 0)=(p (l.getD 0 d)&&chk p q (prev l 1) (l.drop 1)):=by
 cases l with
 | nil=>simp at h
 | cons x r=>rfl
theorem chk_succ {α:Type}{p:α→Bool}{q:α→α→Bool}{l:List α}{d:α}{k:Nat}(h0:0<k)(h:k<l.length):chk p q (prev l k) (l.drop k)=(p (l.getD k d)&&(q (l.getD (k-1) d) (l.getD k d)&&chk p q (prev l (k+1)) (l.drop (k+1)))):=by
 rw[List.drop_eq_getElem_cons h]
 unfold prev
 rw[if_neg (by omega),if_neg (by omega),List.getElem?_eq_getElem (by omega),Nat.add_sub_cancel,List.getElem?_eq_getElem h]
 rw[List.getD_eq_getElem?_getD,List.getD_eq_getElem?_getD,List.getElem?_eq_getElem h,List.getElem?_eq_getElem (by omega)]
 rfl
theorem chk_end {α:Type}{p:α→Bool}{q:α→α→Bool}{l:List α}{k:Nat}(h:l.length≤k)(o:Option α):chk p q o (l.drop k)=true:=by
 rw[List.drop_eq_nil_of_le h];cases o<;>rfl
theorem yc5 {α:Type}{l:List α}{k:Nat}{d:α}(h:k<l.length):l.getD k d∈l:=by
 rw[List.getD_eq_getElem?_getD,List.getElem?_eq_getElem h];exact List.getElem_mem h
def tagsB (l:List (yaz)):Bool:=decide (l.length≤8)&&chk tagB (λa b=>ltS a.1 b.1) none l
def TsB (n:Nat)(l:List (yaz)):Prop:=l.length<n∧∀ t∈l,TB n t
theorem tags35_J (n:Nat)(hn:n≤536870912)(l:List (yaz))(hl:TsB n l):∀ (m k:Nat),k≤l.length→l.length-k<m →
  ycB.J1 n m (l,l,((l.length:Nat):Int),(k:Int),())=some (chk tagB (λa b=>ltS a.1 b.1) (prev l k) (l.drop k),())
 | 0,k,_,h=>by omega
 | m+1,k,hk,h=>by
  have hl1:=hl.1
  rw[ycB.e1]
  simp only[yap,ydC,yei]
  by_cases hlt:k<l.length
  ·have ih:=tags35_J n hn l hl m (k+1) (by omega) (by omega)
   rw[if_pos (decide_eq_true (by omega)),if_pos ⟨by omega,by omega⟩,Int.toNat_natCast,tag47 (hl.2 _ (yc5 hlt)) hn,yab,yb6 (x:=(k:Int)+1) (by omega),show ((k:Int)+1)=((k+1:Nat):Int) by omega,ih]
   by_cases h0:k=0
   ·subst h0
    rw[chk_zero (d:=Va.dflt yaw) (by omega),if_neg (c:=decide (((0:Nat):Int)>0)=true) (by simp)]
    cases tagB (l.getD 0 (Va.dflt yaw))<;>simp
   ·rw[chk_succ (d:=Va.dflt yaw) (by omega) hlt,if_pos (c:=decide ((k:Int)>0)=true) (decide_eq_true (by omega)),yb6 (by omega),if_pos (show 0≤(k:Int)-1∧(k:Int)-1<((l.length:Nat):Int) from ⟨by omega,by omega⟩),show ((k:Int)-1).toNat=k-1 by omega]
    cases tagB (l.getD k (Va.dflt yaw))<;>cases ltS (l.getD (k-1) (Va.dflt yaw)).1 (l.getD k (Va.dflt yaw)).1<;>simp
  ·rw[if_neg (by simp;omega),chk_end (by omega)]
   rw[ycB.e2]
theorem tags35 {n:Nat}(hn:n≤536870912){l:List (yaz)}(hl:TsB n l):ycB.f n l=some (tagsB l,()):=by
 have h:=tags35_J n hn l hl n 0 (by omega) (by have:=hl.1;omega)
 rw[ycB.e0]
 unfold tagsB
 simp only[yap,ydC]
 by_cases h8:l.length≤8
 ·rw[if_neg (by simp;omega),decide_eq_true h8]
  exact h
 ·rw[if_pos (decide_eq_true (by omega)),decide_eq_false h8];rfl
theorem less_tri:∀ x y:List UInt8,Op.bytesLess x y=!(Op.bytesLess y x||y==x)
 | [],[]=>rfl
 | [],_::_=>rfl
 | _::_,[]=>rfl
 | a::x,b::y=>by
  have ih:=less_tri x y
  simp only[Op.bytesLess,List.cons_beq_cons,ih]
  by_cases h:a=b
  ·subst h
   simp
  ·have h1:(a==b)=false:=beq_false_of_ne h
   have h2:(b==a)=false:=beq_false_of_ne (λe=>h e.symm)
   rw[h1,h2]
   simp only[Bool.false_and,Bool.or_false]
   have h3:¬ a.toNat=b.toNat:=λe=>h (UInt8.toNat_inj.1 e)
   have h4:decide (a<b)=decide (a.toNat<b.toNat):=decide_eq_decide.2 UInt8.lt_iff_toNat_lt
   have h5:decide (b<a)=decide (b.toNat<a.toNat):=decide_eq_decide.2 UInt8.lt_iff_toNat_lt
   rw[h4,h5]
   by_cases h6:a.toNat<b.toNat
   ·rw[decide_eq_true h6,decide_eq_false (by omega)];rfl
   ·rw[decide_eq_false h6,decide_eq_true (by omega)];rfl
theorem ltS_tri (a b:ByteArray):ltS a b=!(ltS b a||eqS b a):=less_tri _ _
theorem tags38_J (n:Nat)(hn:n≤536870912)(h5:5≤n)(l:List (yaz))(hl:TsB n l):∀ (m k:Nat),k≤l.length→l.length-k<m →
  yb9.J1 n m (l,(k:Int),())=some (chk tagB (λa b=>ltS a.1 b.1) (prev l k) (l.drop k),())
 | 0,k,_,h=>by omega
 | m + 1,k,hk,h=>by
  have hl1:=hl.1
  rw[yb9.e1]
  simp only[yap,ydC,yei]
  by_cases hlt:k<l.length
  ·have ih:=tags38_J n hn h5 l hl m (k+1) (by omega) (by omega)
   have hg:(0≤(k:Int)∧(k:Int)<((l.length:Nat):Int)):=⟨by omega,by omega⟩
   obtain⟨hb1,hb2⟩:=hl.2 _ (yc5 (d:=Va.dflt yaw) hlt)
   rw[if_pos (decide_eq_true (by omega))]
   simp only[if_pos hg,Int.toNat_natCast]
   rw[clean44 (by omega) hb1 h5,clean44 (by omega) hb2 h5,yab,yab,yb9.e2]
   simp only[yap,ydC,yei,yb9.e3,if_pos hg,Int.toNat_natCast]
   rw[yb6 (x:=(k:Int)+1) (by omega),show ((k:Int)+1)=((k+1:Nat):Int) by omega,ih]
   have hx:chk tagB (λa b=>ltS a.1 b.1) (prev l k) (l.drop k)=(tagB (l.getD k (Va.dflt yaw))&&((if k=0 then true else ltS (l.getD (k-1) (Va.dflt yaw)).1 (l.getD k (Va.dflt yaw)).1)&&chk tagB (λa b=>ltS a.1 b.1) (prev l (k+1)) (l.drop (k+1)))):=by
    by_cases h0:k=0
    ·subst h0
     rw[chk_zero (d:=Va.dflt yaw) (by omega),if_pos rfl,Bool.true_and]
    ·rw[chk_succ (d:=Va.dflt yaw) (by omega) hlt,if_neg h0]
   rw[hx]
   have g1:decide (((l.getD k (Va.dflt yaw)).1.size:Int)<1)=!decide (1≤(l.getD k (Va.dflt yaw)).1.size):=by
    by_cases h0:1≤(l.getD k (Va.dflt yaw)).1.size
    ·rw[decide_eq_true h0,decide_eq_false (by omega)];rfl
    ·rw[decide_eq_false h0,decide_eq_true (by omega)];rfl
   have g2:decide (((l.getD k (Va.dflt yaw)).1.size:Int)>64)=!decide ((l.getD k (Va.dflt yaw)).1.size≤64):=by
    by_cases h0:(l.getD k (Va.dflt yaw)).1.size≤64
    ·rw[decide_eq_true h0,decide_eq_false (by omega)];rfl
    ·rw[decide_eq_false h0,decide_eq_true (by omega)];rfl
   have g3:decide (((l.getD k (Va.dflt yaw)).2.1.size:Int)>64)=!decide ((l.getD k (Va.dflt yaw)).2.1.size≤64):=by
    by_cases h0:(l.getD k (Va.dflt yaw)).2.1.size≤64
    ·rw[decide_eq_true h0,decide_eq_false (by omega)];rfl
    ·rw[decide_eq_false h0,decide_eq_true (by omega)];rfl
   simp only[g1,g2,g3]
   have hy:(if decide ((k:Int)>0)=true then if 0≤IntKind.i64.wrap ((k:Int)-1)∧IntKind.i64.wrap ((k:Int)-1)<((l.length:Nat):Int) then if (ltS (l.getD k (Va.dflt yaw)).1 (l.getD (IntKind.i64.wrap ((k:Int)-1)).toNat (Va.dflt yaw)).1||eqS (l.getD k (Va.dflt yaw)).1 (l.getD (IntKind.i64.wrap ((k:Int)-1)).toNat (Va.dflt yaw)).1)=true then some (false,()) else some (chk tagB (λa b=>ltS a.1 b.1) (prev l (k+1)) (l.drop (k+1)),()) else none else (some (chk tagB (λa b=>ltS a.1 b.1) (prev l (k+1)) (l.drop (k+1)),()):Option yb9.R)) =
     some ((if k=0 then true else ltS (l.getD (k-1) (Va.dflt yaw)).1 (l.getD k (Va.dflt yaw)).1)&&chk tagB (λa b=>ltS a.1 b.1) (prev l (k+1)) (l.drop (k+1)),()):=by
    by_cases h0:k=0
    ·rw[if_neg (by simp;omega),if_pos h0];rfl
    ·rw[if_pos (decide_eq_true (by omega)),if_neg h0,yb6 (by omega),if_pos (show 0≤(k:Int)-1∧(k:Int)-1<((l.length:Nat):Int) from ⟨by omega,by omega⟩),show ((k:Int)-1).toNat=k-1 by omega,ltS_tri (l.getD (k-1) (Va.dflt yaw)).1 (l.getD k (Va.dflt yaw)).1]
     cases (ltS (l.getD k (Va.dflt yaw)).1 (l.getD (k-1) (Va.dflt yaw)).1||eqS (l.getD k (Va.dflt yaw)).1 (l.getD (k-1) (Va.dflt yaw)).1)<;>simp
   simp only[hy]
   unfold tagB
   cases decide (1≤(l.getD k (Va.dflt yaw)).1.size)<;>cases decide ((l.getD k (Va.dflt yaw)).1.size≤64)<;>cases decide ((l.getD k (Va.dflt yaw)).2.1.size≤64)<;>cases yd0 (l.getD k (Va.dflt yaw)).1<;>cases yd0 (l.getD k (Va.dflt yaw)).2.1<;>simp
  ·rw[if_neg (by simp;omega),chk_end (by omega)]
   rw[yb9.e4]
theorem tags38 {n:Nat}(hn:n≤536870912)(h5:5≤n){l:List (yaz)}(hl:TsB n l):yb9.f n l=some (tagsB l,()):=by
 have h:=tags38_J n hn h5 l hl n 0 (by omega) (by have:=hl.1;omega)
 rw[yb9.e0]
 unfold tagsB
 simp only[yap,ydC]
 by_cases h8:l.length≤8
 ·rw[if_neg (by simp;omega),decide_eq_true h8]
  exact h
 ·rw[if_pos (decide_eq_true (by omega)),decide_eq_false h8];rfl
def allB {α:Type}(q:α→α→Bool):List α→List α→Bool
 | [],[]=>true
 | x::a,y::b=>q x y&&allB q a b
 | _,_=>false
theorem yfu {α:Type}{q:α→α→Bool}:∀ (a b:List α),a.length≠b.length→allB q a b=false
 | [],[],h=>absurd rfl h
 | [],_::_,_=>rfl
 | _::_,[],_=>rfl
 | x::a,y::b,h=>by
  unfold allB
  rw[yfu a b (by simp at h;omega),Bool.and_false]
theorem allB_step {α:Type}{q:α→α→Bool}{a b:List α}{k:Nat}(d:α)(ha:k<a.length)(hb:k<b.length):allB q (a.drop k) (b.drop k)=(q (a.getD k d) (b.getD k d)&&allB q (a.drop (k+1)) (b.drop (k+1))):=by
 rw[List.drop_eq_getElem_cons ha,List.drop_eq_getElem_cons hb]
 rw[List.getD_eq_getElem?_getD,List.getD_eq_getElem?_getD,List.getElem?_eq_getElem ha,List.getElem?_eq_getElem hb]
 rfl
theorem allB_end {α:Type}{q:α→α→Bool}{a b:List α}{k:Nat}(ha:a.length≤k)(hb:b.length≤k):allB q (a.drop k) (b.drop k)=true:=by
 rw[List.drop_eq_nil_of_le ha,List.drop_eq_nil_of_le hb];rfl
theorem allB_refl {α:Type}{q:α→α→Bool}:∀ (a:List α),(∀ x∈a,q x x=true)→allB q a a=true
 | [],_=>rfl
 | x::a,h=>by
  unfold allB
  rw[h x List.mem_cons_self,allB_refl a (λy hy=>h y (List.mem_cons_of_mem _ hy))];rfl
def sameT (a b:yaz):Bool:=eqS a.1 b.1&&eqS a.2.1 b.2.1
theorem sameT_eq (a b:yaz):eqD yaw a b=sameT a b:=by
 change ((a.1==b.1)&&((a.2.1==b.2.1)&&true))=_
 unfold sameT
 rw[eqS_eq,eqS_eq,Bool.and_true]
theorem sameT_refl (a:yaz):sameT a a=true:=by unfold sameT;rw[ybF,ybF];rfl
theorem same52_J (n:Nat)(hn:n≤536870912)(a b:List (yaz))(hab:a.length=b.length)(hl:a.length<n):∀ (m k:Nat),k≤a.length→a.length-k<m →
  ycx.J1 n m (a,b,((a.length:Nat):Int),(k:Int),())=some (allB sameT (a.drop k) (b.drop k),())
 | 0,k,_,h=>by omega
 | m+1,k,hk,h=>by
  rw[ycx.e1]
  simp only[yap,ydC,yei]
  by_cases hlt:k<a.length
  ·have ih:=same52_J n hn a b hab hl m (k+1) (by omega) (by omega)
   rw[if_pos (decide_eq_true (by omega)),if_pos ⟨by omega,by omega⟩,if_pos ⟨by omega,by omega⟩,Int.toNat_natCast,yb6 (x:=(k:Int)+1) (by omega),show ((k:Int)+1)=((k+1:Nat):Int) by omega,ih,sameT_eq,allB_step (Va.dflt yaw) hlt (by omega)]
   cases sameT (a.getD k (Va.dflt yaw)) (b.getD k (Va.dflt yaw))<;>simp
  ·rw[if_neg (by simp;omega),allB_end (by omega) (by omega)]
   rw[ycx.e2]
theorem same52 {n:Nat}(hn:n≤536870912){a b:List (yaz)}(ha:a.length<n):ycx.f n a b=some (allB sameT a b,()):=by
 rw[ycx.e0]
 simp only[yap,ydC]
 by_cases h:a.length=b.length
 ·rw[if_neg (by simp[h])]
  exact same52_J n hn a b h ha n 0 (by omega) (by omega)
 ·rw[if_pos (by simp;omega),yfu a b h]
theorem same48 {n:Nat}(hn:n≤536870912){a b:List (yaz)}(ha:a.length<n):yde.f n a b=some (allB sameT a b,()):=by
 rw[yde.e0]
 rw[same52 hn ha,yab]
theorem same32_J (n:Nat)(hn:n≤536870912)(a b:List (yaz))(hab:a.length=b.length)(hl:a.length<n):∀ (m k:Nat),k≤a.length→a.length-k<m →
  ycq.J1 n m (a,b,(k:Int),())=some (allB sameT (a.drop k) (b.drop k),())
 | 0,k,_,h=>by omega
 | m+1,k,hk,h=>by
  rw[ycq.e1]
  simp only[yap,ydC,yei,ycq.e2]
  by_cases hlt:k<a.length
  ·have ih:=same32_J n hn a b hab hl m (k+1) (by omega) (by omega)
   have hg:(0≤(k:Int)∧(k:Int)<((a.length:Nat):Int)):=⟨by omega,by omega⟩
   have hg2:(0≤(k:Int)∧(k:Int)<((b.length:Nat):Int)):=⟨by omega,by omega⟩
   rw[if_pos (decide_eq_true (by omega))]
   simp only[if_pos hg,if_pos hg2,Int.toNat_natCast]
   rw[yb6 (x:=(k:Int)+1) (by omega),show ((k:Int)+1)=((k+1:Nat):Int) by omega,ih,allB_step (Va.dflt yaw) hlt (by omega)]
   have hx:sameT (a.getD k (Va.dflt yaw)) (b.getD k (Va.dflt yaw))=(eqS (a.getD k (Va.dflt yaw)).1 (b.getD k (Va.dflt yaw)).1&&eqS (a.getD k (Va.dflt yaw)).2.1 (b.getD k (Va.dflt yaw)).2.1):=rfl
   rw[hx]
   rcases Bool.eq_false_or_eq_true (eqS (a.getD k (Va.dflt yaw)).1 (b.getD k (Va.dflt yaw)).1) with h1 | h1<;>rcases Bool.eq_false_or_eq_true (eqS (a.getD k (Va.dflt yaw)).2.1 (b.getD k (Va.dflt yaw)).2.1) with h2 | h2<;>simp only[h1,h2]<;>rfl
  ·rw[if_neg (by simp;omega),allB_end (by omega) (by omega)]
   rw[ycq.e3]
theorem same32 {n:Nat}(hn:n≤536870912){a b:List (yaz)}(ha:a.length<n):ycq.f n a b=some (allB sameT a b,()):=by
 rw[ycq.e0]
 simp only[yap,ydC]
 by_cases h:a.length=b.length
 ·rw[if_neg (by simp[h])]
  exact same32_J n hn a b h ha n 0 (by omega) (by omega)
 ·rw[if_pos (by simp;omega),yfu a b h]
def keyB (s:ByteArray):Bool:=decide (1≤s.size)&&(decide (s.size≤200)&&yd0 s)
theorem key24 {n:Nat}{s:ByteArray}(hs:s.size<n)(hn:n≤536870912):yd3.f n s=some (keyB s,()):=by
 rw[yd3.e0]
 unfold keyB
 rw[ydL (by omega) hs,size0]
 simp only[yap,ydC,yab]
 have e1:decide ((s.size:Int)≤200)=decide (s.size≤200):=decide_eq_decide.2 (by omega)
 have e0:(!decide (s.size=0))=decide (1≤s.size):=by
  by_cases h0:s.size=0
  ·rw[decide_eq_true h0,decide_eq_false (by omega)];rfl
  ·rw[decide_eq_false h0,decide_eq_true (by omega)];rfl
 rw[e0,e1]
 cases decide (1≤s.size)<;>cases decide (s.size≤200)<;>simp
theorem key30 {n:Nat}{s:ByteArray}(hs:s.size<n)(hn:n≤536870912)(h5:5≤n):yeQ.f n s=some (keyB s,()):=by
 rw[yeQ.e0]
 unfold keyB
 rw[clean44 (by omega) hs h5]
 simp only[yap,ydC,yab]
 have e1:decide ((s.size:Int)≤200)=decide (s.size≤200):=decide_eq_decide.2 (by omega)
 have e0:decide ((s.size:Int)≥1)=decide (1≤s.size):=decide_eq_decide.2 (by omega)
 rw[e0,e1]
 cases decide (1≤s.size)<;>cases decide (s.size≤200)<;>simp
end Go.Proofs.YtdlkpmohjhjmfaaGreatDoor
namespace Go.Proofs.YtdlkpmohjhjmfaaGreatDoor
open Go Go.Va Go.Proofs
abbrev Ver:Type:=ybD
def mark (v:Ver):Bool:=v.2.1
def vsize (v:Ver):Int:=v.2.2.1
def blob (v:Ver):Int:=v.2.2.2.1
def dig (v:Ver):List Int:=v.2.2.2.2.1
def made (v:Ver):Int:=v.2.2.2.2.2.1
def lock (v:Ver):yaZ:=v.2.2.2.2.2.2.1
def tags (v:Ver):List (yaz):=v.2.2.2.2.2.2.2.1
theorem z_pos (z:Int):decide (z>0)=decide (1≤z):=decide_eq_decide.2 (by omega)
theorem z_eq (z:Int)(h:0≤z):(z==0)=!decide (1≤z):=by
 by_cases h1:z=0
 ·subst h1;rfl
 ·rw[decide_eq_true (by omega),beq_false_of_ne h1];rfl
def verB (v:Ver):Bool:=
 decide (1≤v.1)&&(decide (made v=clampI (made v)) &&
  if mark v=true then (vsize v==0)&&((blob v==0)&&((dig v).all (· == 0)&&(((lock v).1==0&&((lock v).2.1==0&&!(lock v).2.2.1))&&decide ((tags v).length=0))))
  else decide (0≤vsize v)&&(decide (vsize v≤16384)&&(decide (1≤blob v)&&(lockB (lock v)&&tagsB (tags v)))))
structure VB (n:Nat)(v:Ver):Prop where
 id:0≤v.1
 blob:0≤blob v
 dig:(dig v).length=32
 tags:TsB n (tags v)
theorem zeroD:∀ (k:Nat) (d:List Int),d.length=k→eqD (.arr k (.int .u8)) d (List.replicate k 0)=d.all (· == 0)
 | 0,[],_=>rfl
 | k+1,x::d,h=>by
  have ih:=zeroD k d (by simpa using h)
  change (decide (x=0)&&eqD (.arr k (.int .u8)) d (List.replicate k 0))=((x==0)&&d.all (· == 0))
  rw[ih];rfl
theorem ver18 {n:Nat}(hn:n≤536870912){v:Ver}(hv:VB n v):ycS.f n v=some (verB v,()):=by
 rw[ycS.e0]
 simp only[yap,ydC,clamp33,yab]
 rw[ycS.e1]
 have ht:=tags35 hn hv.tags
 unfold tags at ht
 rw[lock34,ht]
 simp only[yap,ydC,yab]
 have hz:eqD (.arr 32 (.int .u8)) v.2.2.2.2.1 ([]++List.replicate (32-([]:List Int).length) 0)=(dig v).all (· == 0):=zeroD 32 _ hv.dig
 rw[hz]
 have hl:eqD yaO v.2.2.2.2.2.2.1 (0,(0,(false,())))=((lock v).1==0&&((lock v).2.1==0&&!(lock v).2.2.1)):=by
  change (decide ((lock v).1=0)&&(decide ((lock v).2.1=0)&&(((lock v).2.2.1==false)&&true)))=_
  cases (lock v).2.2.1<;>rfl
 rw[hl]
 have h0:=hv.id
 have hb:=hv.blob
 have e2:(((v.2.2.2.2.2.2.2.1.length:Nat):Int)==0)=decide ((tags v).length=0):=by
  change (((tags v).length:Int)==0)=_
  cases (tags v).length<;>rfl
 rw[e2]
 have e3:decide (v.2.2.2.1>0)=decide (1≤blob v):=z_pos (blob v)
 have e4:(v.1==0)=!decide (1≤v.1):=z_eq v.1 h0
 have e5:(v.2.2.2.2.2.1 != clampI v.2.2.2.2.2.1)=!decide (made v=clampI (made v)):=rfl
 simp only[e3,e4,e5]
 unfold verB
 change (if (!decide (1≤v.1))=true then _ else if (!decide (made v=clampI (made v)))=true then _ else if mark v=true then _ else _)=_
 cases decide (1≤v.1)
 ·rfl
 ·cases decide (made v=clampI (made v))
  ·rfl
  ·cases hm:mark v
   ·change (if decide (0≤vsize v)=true then if decide (vsize v≤16384)=true then _ else _ else _)=_
    change (if decide (0≤vsize v)=true then if decide (vsize v≤16384)=true then if decide (1≤blob v)=true then if lockB (lock v)=true then some (tagsB (tags v),()) else some (false,()) else some (false,()) else some (false,()) else (some (false,()):Option ycS.R))=_
    cases decide (0≤vsize v)<;>cases decide (vsize v≤16384)<;>cases decide (1≤blob v)<;>cases lockB (lock v)<;>rfl
   ·change (if (vsize v==0)=true then if (blob v==0)=true then if (dig v).all (· == 0)=true then if ((lock v).1==0&&((lock v).2.1==0&&!(lock v).2.2.1))=true then some (decide ((tags v).length=0),()) else some (false,()) else some (false,()) else some (false,()) else (some (false,()):Option ycS.R))=_
    cases (vsize v==0)<;>cases (blob v==0)<;>cases (dig v).all (· == 0)<;>cases ((lock v).1==0&&((lock v).2.1==0&&!(lock v).2.2.1))<;>rfl
def sameV (a b:Ver):Bool:=allB sameT (tags a) (tags b)&&((a.1==b.1)&&((mark a==mark b)&&((vsize a==vsize b)&&((blob a==blob b)&&(eqD (.arr 32 (.int .u8)) (dig a) (dig b)&&((made a==made b)&&eqD yaO (lock a) (lock b)))))))
theorem sameV40 {n:Nat}(hn:n≤536870912){a b:Ver}(ha:(tags a).length<n):ybj.f n a b=some (sameV a b,()):=by
 rw[ybj.e0]
 have h:=same48 (b:=tags b) hn ha
 unfold tags at h
 rw[h,yab]
 simp only[yap,ydC]
 unfold sameV
 change (if allB sameT (tags a) (tags b)=true then if (a.1==b.1)=true then if (mark a==mark b)=true then if (vsize a==vsize b)=true then if (blob a==blob b)=true then if eqD (.arr 32 (.int .u8)) (dig a) (dig b)=true then if (made a==made b)=true then some (eqD yaO (lock a) (lock b),()) else some (false,()) else some (false,()) else some (false,()) else some (false,()) else some (false,()) else some (false,()) else (some (false,()):Option ybj.R))=_
 cases allB sameT (tags a) (tags b)<;>cases (a.1==b.1)<;>cases (mark a==mark b)<;>cases (vsize a==vsize b)<;>cases (blob a==blob b)<;>cases eqD (.arr 32 (.int .u8)) (dig a) (dig b)<;>cases (made a==made b)<;>rfl
theorem sameV17 {n:Nat}(hn:n≤536870912){a b:Ver}(ha:(tags a).length<n):ycC.f n a b=some (sameV a b,()):=by
 rw[ycC.e0]
 have h:=same32 (b:=tags b) hn ha
 unfold tags at h
 rw[ycC.e1]
 rw[h,yab]
 simp only[yap,ydC]
 unfold sameV
 change (if (!(a.1==b.1))=true then some (false,()) else if (!(mark a==mark b))=true then some (false,()) else if (!(vsize a==vsize b))=true then some (false,()) else if (!(blob a==blob b))=true then some (false,()) else if (!(made a==made b))=true then some (false,()) else if (!(eqD yaO (lock a) (lock b)))=true then some (false,()) else if eqD (.arr 32 (.int .u8)) (dig a) (dig b)=true then some (allB sameT (tags a) (tags b),()) else (some (false,()):Option ycC.R))=_
 cases allB sameT (tags a) (tags b)<;>cases (a.1==b.1)<;>cases (mark a==mark b)<;>cases (vsize a==vsize b)<;>cases (blob a==blob b)<;>cases eqD (.arr 32 (.int .u8)) (dig a) (dig b)<;>cases (made a==made b)<;>cases eqD yaO (lock a) (lock b)<;>rfl
theorem digRefl:∀ (d:List Int),eqD (.arr 32 (.int .u8)) d d=true
 | []=>rfl
 | x::d=>by
  have:=digRefl d
  change (decide (x=x)&&eqD (.arr 32 (.int .u8)) d d)=true
  rw[this,decide_eq_true rfl];rfl
theorem ydp (l:yaZ):eqD yaO l l=true:=by
 change (decide (l.1=l.1)&&(decide (l.2.1=l.2.1)&&((l.2.2.1==l.2.2.1)&&true)))=true
 rw[decide_eq_true rfl,decide_eq_true rfl,beq_self_eq_true];rfl
theorem sameV_refl (a:Ver):sameV a a=true:=by
 unfold sameV
 rw[allB_refl _ (λx _=>sameT_refl x),digRefl,ydp]
 simp
end Go.Proofs.YtdlkpmohjhjmfaaGreatDoor
namespace Go.Proofs.YtdlkpmohjhjmfaaGreatDoor
open Go Go.Va Go.Proofs
theorem yaq {α:Type}(x y:α):bIf true x y=x:=rfl
theorem yaj {α:Type}(x y:α):bIf false x y=y:=rfl
theorem yck (a b:Bool):bIf a (some (b,())) (some (false,()))=some (a&&b,()):=by cases a<;>rfl
theorem ycJ (a b:Bool):bIf a (some (false,())) (some (b,()))=some (!a&&b,()):=by cases a<;>rfl
theorem ydq {α:Type}(a:Bool)(x:α):bIf a x x=x:=by cases a<;>rfl
theorem bIf_bool (a:Bool):bIf a (some (true,())) (some (false,()))=some (a,()):=by cases a<;>rfl
theorem all_loop {α R:Type}{l:List α}(d:α)(p:α→Bool)(J:Nat→Int→Option R)(yes no:Option R)
  (hs:∀ m (k:Nat),k<l.length→J (m+1) (k:Int)=bIf (p (l.getD k d)) (J m ((k+1:Nat):Int)) no) (he:∀ m,J (m+1) ((l.length:Nat):Int)=yes) :
  ∀ (m k:Nat),k≤l.length→l.length-k<m→J m (k:Int)=bIf ((l.drop k).all p) yes no
 | 0,k,_,h=>by omega
 | m+1,k,hk,h=>by
  by_cases hlt:k<l.length
  ·rw[hs m k hlt,all_loop d p J yes no hs he m (k+1) (by omega) (by omega),List.drop_eq_getElem_cons hlt,List.all_cons,List.getD_eq_getElem?_getD,List.getElem?_eq_getElem hlt]
   simp only[Option.getD_some]
   cases p l[k]<;>rfl
  ·have:k=l.length:=by omega
   subst this
   rw[he,List.drop_length];rfl
theorem idx_loop {α:Type}{l:List α}(d:α)(p:α→Bool)(J:Nat→Int→Option (Int×Unit))
  (hs:∀ m (k:Nat),k<l.length→J (m+1) (k:Int)=bIf (p (l.getD k d)) (some ((k:Int),())) (J m ((k+1:Nat):Int))) (he:∀ m,J (m+1) ((l.length:Nat):Int)=some (-1,())) :
  ∀ (m k:Nat),k≤l.length→l.length-k<m→∃ i,J m (k:Int)=some (i,())∧decide (i≥0)=(l.drop k).any p
 | 0,k,_,h=>by omega
 | m+1,k,hk,h=>by
  by_cases hlt:k<l.length
  ·obtain⟨i,h1,h2⟩:=idx_loop d p J hs he m (k+1) (by omega) (by omega)
   rw[hs m k hlt,List.drop_eq_getElem_cons hlt,List.any_cons,List.getD_eq_getElem?_getD,List.getElem?_eq_getElem hlt]
   simp only[Option.getD_some]
   cases p l[k]
   ·exact⟨i,h1,by rw[h2];rfl⟩
   ·exact⟨_,rfl,by simp⟩
  ·have:k=l.length:=by omega
   subst this
   rw[he,List.drop_length]
   exact⟨_,rfl,rfl⟩
theorem ybp (k:Nat)(h:k<4611686018427387904):IntKind.i64.wrap ((k:Int)+1)=((k+1:Nat):Int):=by rw[yb6 (by omega)];omega
theorem yeo {p q:Prop} [Decidable p] [Decidable q](h:p↔¬ q):decide p=!decide q:=by rw[← decide_not];exact decide_eq_decide.2 h
def modeB (d:yaL):Bool:=if d.1=0 then d.2.1==0 else (d.1==1||d.1==2)&&(decide (d.2.1≥1)&&decide (d.2.1≤36500))
theorem ydo (n:Nat)(d:yaL):yeT.f n d=some (modeB d,()):=by
 rw[yeT.e0]
 simp only[yeT.e1,yap,yck]
 unfold modeB
 by_cases h0:d.1=0
 ·simp[h0,yaq]
 ·rw[beq_false_of_ne h0,yaj,if_neg h0]
  cases (d.1==1)<;>rfl
theorem ref12_Good (n:Nat)(d:yaL):yey.f n d=some (modeB d,()):=by
 rw[yey.e0]
 simp only[yap,yck]
 unfold modeB
 by_cases h0:d.1=0
 ·simp[h0,yaq]
 ·rw[beq_false_of_ne h0,yaj,if_neg h0]
  cases (d.1==1)<;>rfl
def globL:List UInt8→Bool
 | []=>true
 | c::r=>if c=92 then match r with
  | []=>false
  | _::r'=>globL r'
  else globL r
def globB (p:ByteArray):Bool:=decide (p.size≤200)&&globL p.data.toList
theorem globL_cons {c:UInt8}{r:List UInt8}(h:c≠92):globL (c::r)=globL r:=by rw[globL.eq_def];simp only[if_neg h]
theorem globL_q (b:UInt8)(r:List UInt8):globL (92::b::r)=globL r:=by rw[globL.eq_def];simp
theorem globL_end:globL [92]=false:=by rw[globL.eq_def];simp
theorem drop_getD (l:List UInt8){k:Nat}(h:k<l.length):l.drop k=l.getD k 0::l.drop (k+1):=by
 rw[List.drop_eq_getElem_cons h,List.getD_eq_getElem?_getD,List.getElem?_eq_getElem h];rfl
theorem u8_eq {b:UInt8}{c:Nat}(hc:c<256):((b.toNat:Int)==(c:Int))=decide (b=UInt8.ofNat c):=by
 have:=b.toNat_lt
 by_cases h:b=UInt8.ofNat c
 ·subst h;rw[decide_eq_true rfl];simp[UInt8.toNat_ofNat'];omega
 ·rw[decide_eq_false h]
  refine beq_false_of_ne (λe=>h ?_)
  apply UInt8.toNat_inj.1
  simp[UInt8.toNat_ofNat']
  omega
theorem glob_J (n:Nat)(p:ByteArray)(hp:p.size≤200):∀ (m k:Nat) (out:List ybq),k≤p.size→p.size-k<m→out.length≤k →
  ∃ o,ycR.J1 n m (p,out,(k:Int),())=some (o,globL (p.data.toList.drop k),())
 | 0,k,out,_,h,_=>by omega
 | m + 1,k,out,hk,h,ho=>by
  have hsz:=yfj p
  rw[ycR.e1]
  simp only[yap]
  by_cases hlt:k<p.size
  ·have hd:=drop_getD p.data.toList (k:=k) (by omega)
   rw[decide_eq_true (by omega),yaq,yar ⟨by omega,by omega⟩,bt_nat,hd]
   have hg:∀ o:List ybq,o.length≤k+1→(o.length+1)*16≤70368744177664:=λo h'=>by omega
   have e1:(((p.data.toList.getD k 0).toNat:Int)==42)=decide (p.data.toList.getD k 0=42):=u8_eq (c:=42) (by decide)
   have e2:(((p.data.toList.getD k 0).toNat:Int)==63)=decide (p.data.toList.getD k 0=63):=u8_eq (c:=63) (by decide)
   have e3:(((p.data.toList.getD k 0).toNat:Int)==92)=decide (p.data.toList.getD k 0=92):=u8_eq (c:=92) (by decide)
   rw[e1,e2,e3]
   generalize p.data.toList.getD k 0=c
   have st:∀ o:List ybq,o.length≤k+1→∃ o',ycR.J3 n m (p,o,(k:Int),())=some (o',globL (p.data.toList.drop (k+1)),()):=λo h'=>by
    rw[ycR.e3,ybp k (by omega)]
    exact glob_J n p hp m (k+1) o (by omega) (by omega) h'
   by_cases h1:c=42
   ·rw[decide_eq_true h1,yaq,yar (hg out (by omega)),globL_cons (by rw[h1];decide)]
    exact st _ (by simp;omega)
   ·rw [decide_eq_false h1,yaj]
    by_cases h2:c=63
    ·rw[decide_eq_true h2,yaq,yar (hg out (by omega)),globL_cons (by rw[h2];decide)]
     exact st _ (by simp;omega)
    ·rw[decide_eq_false h2,yaj]
     by_cases h3:c=92
     ·rw[decide_eq_true h3,yaq,ybp k (by omega),h3]
      by_cases h4:k+1=p.size
      ·rw[beq_iff_eq.2 (by omega),yaq,List.drop_eq_nil_of_le (by omega),globL_end]
       exact⟨_,rfl⟩
      ·rw[beq_false_of_ne (by omega),yaj,ycR.e2,yar ⟨by omega,by omega⟩,yar (hg out (by omega)),ycR.e3,ybp (k+1) (by omega),drop_getD p.data.toList (k:=k+1) (by omega),globL_q]
       exact glob_J n p hp m (k+1+1) _ (by omega) (by omega) (by simp;omega)
     ·rw[decide_eq_false h3,yaj,ycR.e2,yar ⟨by omega,by omega⟩,yar (hg out (by omega)),globL_cons h3]
      exact st _ (by simp;omega)
  ·have hkk:k=p.size:=by omega
   subst hkk
   rw[decide_eq_false (by omega),yaj,ycR.e4,hsz,List.drop_length]
   exact⟨_,rfl⟩
theorem glob_Sound {n:Nat}{p:ByteArray}(hp:p.size<n):yee.f n p=some (globB p,()):=by
 rw[yee.e0,ycR.e0]
 simp only[yap]
 unfold globB
 by_cases h:p.size≤200
 ·rw[decide_eq_false (by omega),yaj,decide_eq_true h]
  obtain⟨o,ho⟩:=glob_J n p h n 0 [] (by omega) (by omega) (by simp)
  rw[show ((0:Nat):Int)=0 from rfl]at ho
  rw[ho];rfl
 ·rw[decide_eq_true (by omega),decide_eq_false h];rfl
theorem glob7_J (n:Nat)(p:ByteArray)(hp:p.size≤200):∀ (m k:Nat) (out:List ybq),k≤p.size→p.size-k<m→out.length≤k →
  ∃ o,ycZ.J1 n m (p,out,(k:Int),())=some (o,globL (p.data.toList.drop k),())
 | 0,k,out,_,h,_=>by omega
 | m + 1,k,out,hk,h,ho=>by
  have hsz:=yfj p
  rw[ycZ.e1]
  simp only[yap]
  by_cases hlt:k<p.size
  ·have hd:=drop_getD p.data.toList (k:=k) (by omega)
   rw[decide_eq_true (by omega),yaq,yar ⟨by omega,by omega⟩,bt_nat,hd]
   have hg:∀ o:List ybq,o.length≤k+1→(o.length+1)*16≤70368744177664:=λo h'=>by omega
   have e1:(((p.data.toList.getD k 0).toNat:Int)==42)=decide (p.data.toList.getD k 0=42):=u8_eq (c:=42) (by decide)
   have e2:(((p.data.toList.getD k 0).toNat:Int)==63)=decide (p.data.toList.getD k 0=63):=u8_eq (c:=63) (by decide)
   have e3:(((p.data.toList.getD k 0).toNat:Int)==92)=decide (p.data.toList.getD k 0=92):=u8_eq (c:=92) (by decide)
   rw[e1,e2,e3]
   generalize p.data.toList.getD k 0=c
   have st:∀ o:List ybq,o.length≤k+1→∃ o',ycZ.J2 n m (p,o,(k:Int),())=some (o',globL (p.data.toList.drop (k+1)),()):=λo h'=>by
    rw[ycZ.e2,ybp k (by omega)]
    exact glob7_J n p hp m (k+1) o (by omega) (by omega) h'
   by_cases h1:c=42
   ·rw[decide_eq_true h1,yaq,yar (hg out (by omega)),globL_cons (by rw[h1];decide)]
    exact st _ (by simp;omega)
   ·rw [decide_eq_false h1,yaj]
    by_cases h2:c=63
    ·rw[decide_eq_true h2,yaq,yar (hg out (by omega)),globL_cons (by rw[h2];decide)]
     exact st _ (by simp;omega)
    ·rw[decide_eq_false h2,yaj]
     by_cases h3:c=92
     ·rw[decide_eq_true h3,yaq,ybp k (by omega),yb6 (x:=(p.size:Int)-1) (by omega),h3]
      by_cases h4:k+1=p.size
      ·rw[beq_iff_eq.2 (by omega),yaq,List.drop_eq_nil_of_le (by omega),globL_end]
       exact⟨_,rfl⟩
      ·rw[beq_false_of_ne (by omega),yaj,yar ⟨by omega,by omega⟩,yar (hg out (by omega)),ycZ.e2,ybp (k+1) (by omega),drop_getD p.data.toList (k:=k+1) (by omega),globL_q]
       exact glob7_J n p hp m (k+1+1) _ (by omega) (by omega) (by simp;omega)
     ·rw[decide_eq_false h3,yaj,yar ⟨by omega,by omega⟩,yar (hg out (by omega)),globL_cons h3]
      exact st _ (by simp;omega)
  ·have hkk:k=p.size:=by omega
   subst hkk
   rw[decide_eq_false (by omega),yaj,ycZ.e3,hsz,List.drop_length]
   exact⟨_,rfl⟩
theorem ref07_Sound {n:Nat}{p:ByteArray}(hp:p.size<n):ydQ.f n p=some (globB p,()):=by
 rw[ydQ.e0,ycZ.e0]
 simp only[yap]
 unfold globB
 by_cases h:p.size≤200
 ·rw[decide_eq_false (by omega),yaj,decide_eq_true h]
  obtain⟨o,ho⟩:=glob7_J n p h n 0 [] (by omega) (by omega) (by simp)
  rw[show ((0:Nat):Int)=0 from rfl]at ho
  rw[ho];rfl
 ·rw[decide_eq_true (by omega),decide_eq_false h];rfl
def partB (p:D_api_Part):Bool:=decide (p.1≥1)&&(decide (p.1≤10000)&&(decide (p.2.1≥0)&&(decide (p.2.1≤1024)&&decide (p.2.2.1≥1))))
def ruleB (r:yau):Bool:=decide (r.1.size≤200)&&(yd0 r.1&&(tagsB r.2.1&&(decide (r.2.2.1≥0)&&(decide (r.2.2.1≤36500)&&(decide (r.2.2.2.1≥0)&&decide (r.2.2.2.1≤36500))))))
structure RuB (n:Nat)(r:yau):Prop where
 pre:r.1.size<n
 tags:TsB n r.2.1
theorem dec_cast (a b:Nat):decide ((a:Int)≤(b:Int))=decide (a≤b):=decide_eq_decide.2 (by omega)
theorem entry_Rule {n:Nat}(hn:n≤536870912){r:yau}(hr:RuB n r):yeM.f n r=some (ruleB r,()):=by
 have h1:=hr.pre
 rw[yeM.e0,ydL (by omega) h1,tags35 hn hr.tags]
 simp only[yap,yab,yck]
 rw[show (200:Int)=((200:Nat):Int) from rfl,dec_cast];rfl
def rulesB (l:List yau):Bool:=decide (l.length≤8)&&l.all ruleB
structure RusB (n:Nat)(l:List yau):Prop where
 len:l.length<n
 all:∀ r∈l,RuB n r
theorem any_not {α:Type}(p:α→Bool):∀ l:List α,(!l.any λx=>!p x)=l.all p
 | []=>rfl
 | x::l=>by
  have:=any_not p l
  simp only[List.any_cons,List.all_cons,Bool.not_or,Bool.not_not,this]
theorem ycE {n:Nat}(hn:n≤536870912){l:List yau}(hl:RusB n l):yex.f n l=some (rulesB l,()):=by
 have hlen:=hl.len
 obtain⟨i,h1,h2⟩:=idx_loop (l:=l) (Va.dflt yaC) (λr=>!ruleB r) (λm k=>ybG.J1 n m (l,((l.length:Nat):Int),k,()))
  (λm k hk=>by
   try dsimp only
   rw[ybG.e1,yap,decide_eq_true (by omega),yaq,yar ⟨by omega,by omega⟩,Int.toNat_natCast,yer.e0,entry_Rule hn (hl.all _ (yc5 hk)),ybp k (by omega)];rfl)
  (λm=>by
   try dsimp only
   rw[ybG.e1,yap,decide_eq_false (by omega),yaj,ybG.e2]) n 0 (by omega) (by omega)
 rw[yex.e0,yct.e0,ybG.e0]
 try dsimp only at h1
 rw[show ((0:Nat):Int)=0 from rfl]at h1
 rw[h1]
 simp only[yap,yab,yck]
 rw[h2,List.drop_zero,any_not,show (8:Int)=((8:Nat):Int) from rfl,dec_cast];rfl
theorem ref14_Rules {n:Nat}(hn:n≤536870912)(h5:5≤n){l:List yau}(hl:RusB n l):yc6.f n l=some (rulesB l,()):=by
 have hlen:=hl.len
 have h1:=all_loop (l:=l) (Va.dflt yaC) ruleB (λm k=>yc6.J1 n m (l,k,())) (some (true,())) (some (false,()))
  (λm k hk=>by
   have hr:=hl.all _ (yc5 (d:=Va.dflt yaC) hk)
   have hp:=hr.pre
   try dsimp only
   rw[yc6.e1,yap,decide_eq_true (by omega),yaq,yar ⟨by omega,by omega⟩,Int.toNat_natCast]
   generalize hx:l.getD k (Va.dflt yaC)=r at hr hp
   rw[clean44 (by omega) hp h5,tags38 hn h5 hr.tags]
   simp only[yap,yab]
   rw[yc6.e2,ybp k (by omega)]
   unfold ruleB
   have a1:decide ((r.1.size:Int)>200)=!decide (r.1.size≤200):=yeo (by omega)
   have a2:decide (r.2.2.1<0)=!decide (r.2.2.1≥0):=yeo (by omega)
   have a3:decide (r.2.2.1>36500)=!decide (r.2.2.1≤36500):=yeo (by omega)
   have a4:decide (r.2.2.2.1<0)=!decide (r.2.2.2.1≥0):=yeo (by omega)
   have a5:decide (r.2.2.2.1>36500)=!decide (r.2.2.2.1≤36500):=yeo (by omega)
   rw[a1,a2,a3,a4,a5]
   cases decide (r.1.size≤200)<;>cases yd0 r.1<;>cases tagsB r.2.1<;>cases decide (r.2.2.1≥0)<;>cases decide (r.2.2.1≤36500)<;>cases decide (r.2.2.2.1≥0)<;>cases decide (r.2.2.2.1≤36500)<;>rfl)
  (λm=>by
   try dsimp only
   rw[yc6.e1,yap,decide_eq_false (by omega),yaj,yc6.e3]) n 0 (by omega) (by omega)
 rw[yc6.e0,yap]
 unfold rulesB
 by_cases h8:l.length≤8
 ·rw[decide_eq_false (by omega),yaj,decide_eq_true h8]
  try dsimp only at h1
  rw[show ((0:Nat):Int)=0 from rfl]at h1
  rw[h1,List.drop_zero,bIf_bool];rfl
 ·rw[decide_eq_true (by omega),decide_eq_false h8];rfl
def grantB (g:yat):Bool:=globB g.2.1&&(globB g.2.2.1&&globB g.2.2.2.1)
structure GrB (n:Nat)(g:yat):Prop where
 a:g.2.1.size<n
 b:g.2.2.1.size<n
 c:g.2.2.2.1.size<n
def yeY (l:List yat):Bool:=decide (l.length≤8)&&l.all grantB
structure GrsB (n:Nat)(l:List yat):Prop where
 len:l.length<n
 all:∀ r∈l,GrB n r
theorem ycd {n:Nat}(hn:n≤536870912){l:List yat}(hl:GrsB n l):yeh.f n l=some (yeY l,()):=by
 have hlen:=hl.len
 obtain⟨i,h1,h2⟩:=idx_loop (l:=l) (Va.dflt yaD) (λr=>!grantB r) (λm k=>ybA.J1 n m (l,((l.length:Nat):Int),k,()))
  (λm k hk=>by
   have hr:=hl.all _ (yc5 (d:=Va.dflt yaD) hk)
   try dsimp only
   rw[ybA.e1,yap,decide_eq_true (by omega),yaq,yar ⟨by omega,by omega⟩,Int.toNat_natCast,yd2.e0]
   generalize hx:l.getD k (Va.dflt yaD)=r at hr
   rw[glob_Sound hr.a,glob_Sound hr.b,glob_Sound hr.c,ybp k (by omega)]
   simp only[yab]
   unfold grantB
   cases globB r.2.1<;>cases globB r.2.2.1<;>cases globB r.2.2.2.1<;>rfl)
  (λm=>by
   try dsimp only
   rw[ybA.e1,yap,decide_eq_false (by omega),yaj,ybA.e2]) n 0 (by omega) (by omega)
 rw[yeh.e0,ycl.e0,ybA.e0]
 try dsimp only at h1
 rw[show ((0:Nat):Int)=0 from rfl]at h1
 rw[h1]
 simp only[yap,yab,yck]
 rw[h2,List.drop_zero,any_not,show (8:Int)=((8:Nat):Int) from rfl,dec_cast];rfl
theorem ref14_Grants {n:Nat}(hn:n≤536870912){l:List yat}(hl:GrsB n l):ycM.f n l=some (yeY l,()):=by
 have hlen:=hl.len
 have h1:=all_loop (l:=l) (Va.dflt yaD) grantB (λm k=>ycM.J1 n m (l,k,())) (some (true,())) (some (false,()))
  (λm k hk=>by
   have hr:=hl.all _ (yc5 (d:=Va.dflt yaD) hk)
   have hg:(0≤(k:Int)∧(k:Int)<((l.length:Nat):Int)):=⟨by omega,by omega⟩
   try dsimp only
   rw[ycM.e1,yap,decide_eq_true (by omega),yaq]
   simp only[yar hg,Int.toNat_natCast]
   generalize hx:l.getD k (Va.dflt yaD)=r at hr
   rw[ref07_Sound hr.a,ref07_Sound hr.b,ref07_Sound hr.c,ycM.e2,ybp k (by omega)]
   simp only[yab]
   unfold grantB
   cases globB r.2.1<;>cases globB r.2.2.1<;>cases globB r.2.2.2.1<;>rfl)
  (λm=>by
   try dsimp only
   rw[ycM.e1,yap,decide_eq_false (by omega),yaj,ycM.e3]) n 0 (by omega) (by omega)
 rw[ycM.e0,yap]
 unfold yeY
 by_cases h8:l.length≤8
 ·rw[decide_eq_false (by omega),yaj,decide_eq_true h8]
  try dsimp only at h1
  rw[show ((0:Nat):Int)=0 from rfl]at h1
  rw[h1,List.drop_zero,bIf_bool];rfl
 ·rw[decide_eq_true (by omega),decide_eq_false h8];rfl
end Go.Proofs.YtdlkpmohjhjmfaaGreatDoor
namespace Go.Proofs.YtdlkpmohjhjmfaaGreatDoor
open Go Go.Va Go.Proofs
def lowB (b:UInt8):Bool:=(decide (97≤b.toNat)&&decide (b.toNat≤122))||(decide (48≤b.toNat)&&decide (b.toNat≤57))
def digB (b:UInt8):Bool:=decide (48≤b.toNat)&&decide (b.toNat≤57)
def lowT:List UInt8:=[97,98,99,100,101,102,103,104,105,106,107,108,109,110,111,112,113,114,115,116,117,118,119,120,121,122,48,49,50,51,52,53,54,55,56,57]
def digT:List UInt8:=[48,49,50,51,52,53,54,55,56,57]
theorem low_all:∀ n,n<256→(decide (Lib.indexByte lowT (UInt8.ofNat n)≥0)=lowB (UInt8.ofNat n)∧digT.contains (UInt8.ofNat n)=digB (UInt8.ofNat n)):=by decide +kernel
theorem ofNat_toNat (b:UInt8):UInt8.ofNat b.toNat=b:=by simp
theorem low_idx (b:UInt8):decide (Lib.indexByte lowT b≥0)=lowB b:=by
 have:=(low_all b.toNat b.toNat_lt).1;rwa [ofNat_toNat]at this
theorem dig_has (b:UInt8):digT.contains b=digB b:=by
 have:=(low_all b.toNat b.toNat_lt).2;rwa [ofNat_toNat]at this
theorem ref_low (n:Nat)(b:UInt8):yd9.f n (b.toNat:Int)=some (lowB b,()):=by
 rw[yd9.e0]
 simp only[yap]
 unfold lowB
 have e1:decide ((b.toNat:Int)≥97)=decide (97≤b.toNat):=decide_eq_decide.2 (by omega)
 have e2:decide ((b.toNat:Int)≤122)=decide (b.toNat≤122):=decide_eq_decide.2 (by omega)
 have e3:decide ((b.toNat:Int)≥48)=decide (48≤b.toNat):=decide_eq_decide.2 (by omega)
 have e4:decide ((b.toNat:Int)≤57)=decide (b.toNat≤57):=decide_eq_decide.2 (by omega)
 rw[e1,e2,e3,e4]
 cases decide (97≤b.toNat)<;>cases decide (b.toNat≤122)<;>cases decide (48≤b.toNat)<;>cases decide (b.toNat≤57)<;>rfl
theorem among_low (n:Nat)(b:UInt8):yeA.f n ⟨#[97,98,99,100,101,102,103,104,105,106,107,108,109,110,111,112,113,114,115,116,117,118,119,120,121,122,48,49,50,51,52,53,54,55,56,57]⟩ (b.toNat:Int)=some (lowB b,()):=by
 rw[yeA.e0]
 unfold ycm.f
 rw[yab,yap]
 have e:((b.toNat:Int)).toNat.toUInt8=b:=by
  rw[Int.toNat_natCast]
  exact ofNat_toNat b
 rw[e]
 exact congrArg (λx=>some (x,())) (low_idx b)
def spl (c:UInt8):List UInt8→List (List UInt8)
 | []=>[[]]
 | b::r=>if b=c then []::spl c r else match spl c r with
  | []=>[[b]]
  | p::ps=>(b::p)::ps
theorem spl_ne (c:UInt8):∀ l,spl c l≠[]
 | []=>by simp[spl]
 | b::r=>by
  unfold spl
  split
  ·simp
  ·split<;>simp
theorem index_cons (b c:UInt8)(l:List UInt8):Lib.index (b::l) [c]=if b=c then 0 else if Lib.index l [c] = -1 then -1 else Lib.index l [c]+1:=by
 rw[Lib.index]
 by_cases h:b=c
 ·subst h;simp[List.isPrefixOf]
 ·rw[if_neg h]
  have hp:([c]:List UInt8).isPrefixOf (b::l)=false:=by simp[List.isPrefixOf,Ne.symm h]
  rw[hp]
  simp
theorem splitK_spl (c:UInt8):∀ l:List UInt8,Lib.splitK [c] 0 (Lib.count l [c]) l=spl c l
 | []=>by rw[Lib.count_one];rfl
 | b :: l=>by
  have ih:=splitK_spl c l
  by_cases h:b=c
  ·subst h
   rw[Lib.count_cons_eq,Nat.add_comm,Lib.splitK,index_cons,if_pos rfl,if_neg (by decide)]
   unfold spl
   rw[if_pos rfl]
   change List.take 0 (b::l)::Lib.splitK [b] 0 (Lib.count l [b]) (List.drop 1 (b::l))=_
   rw[List.take_zero,List.drop_one,List.tail_cons,ih]
  ·rw[Lib.count_cons_ne b c l h]
   unfold spl
   rw[if_neg h,← ih]
   cases hk:Lib.count l [c] with
   | zero=>rfl
   | succ k=>
    rw[Lib.splitK,Lib.splitK,index_cons,if_neg h]
    by_cases hm:Lib.index l [c] = -1
    ·rw[if_pos hm,if_pos (by decide),if_pos (by rw[hm];decide)]
    ·have hge:=Lib.index_ge l [c]
     obtain⟨j,hj⟩:∃ j:Nat,Lib.index l [c]=j:=⟨(Lib.index l [c]).toNat,by omega⟩
     rw[if_neg hm,hj,if_neg (by rw[beq_iff_eq];omega),if_neg (by rw[beq_iff_eq];omega),show ((j:Int)+1).toNat=j+1 by omega,show ((j:Int)).toNat=j by omega]
     rfl
def okP (p:List UInt8):Bool:=decide (1≤p.length)&&(decide (p.length≤3)&&p.all digB)
def addrL (l:List UInt8):Bool:=decide ((spl 46 l).length=4)&&(spl 46 l).all okP
theorem dropWhile_nil {α:Type}(p:α→Bool):∀ l:List α,(l.dropWhile p=[])↔l.all p=true
 | []=>by simp
 | x::l=>by
  rw[List.dropWhile_cons,List.all_cons]
  cases h:p x
  ·simp
  ·simp[dropWhile_nil p l]
theorem trimS_nil (l:List UInt8):(Lib.trimS l digT=[])↔l.all digB=true:=by
 have hd:(digT.contains ·)=digB:=funext dig_has
 unfold Lib.trimS Lib.trimLeftS Lib.trimRightS
 rw[hd,dropWhile_nil,List.all_reverse]
 constructor
 ·intro h
  have:l.reverse.dropWhile digB=[]:=by
   cases hc:l.reverse.dropWhile digB with
   | nil=>rfl
   | cons x r=>
    have h1:=List.head?_dropWhile_not digB l.reverse
    rw[hc]at h1 h
    simp only[List.all_cons,Bool.and_eq_true]at h
    simp[h.1]at h1
  rw[dropWhile_nil,List.all_reverse]at this
  exact this
 ·intro h
  have:l.reverse.dropWhile digB=[]:=by rw[dropWhile_nil,List.all_reverse];exact h
  rw[this];rfl
theorem all_map {α β:Type}(f:α→β)(p:β→Bool):∀ l:List α,(l.map f).all p=l.all λx=>p (f x)
 | []=>rfl
 | x::l=>by simp only[List.map_cons,List.all_cons,all_map f p l]
theorem label_address {n:Nat}(hn:300≤n){s:ByteArray}(hs:s.size≤63):ycW.f n s=some (addrL s.data.toList,()):=by
 rw[ycW.e0]
 unfold yb8.f
 rw[if_pos ⟨by omega,by decide⟩,yab]
 have hmap:=Lib.splitB_data ⟨#[46]⟩ 0 (Lib.countB s ⟨#[46]⟩) s
 have hlen:=Lib.splitB_all ⟨#[46]⟩ (by decide) 0 _ s rfl
 have hcl:=Lib.countB_le ⟨#[46]⟩ (by decide) s.size s (Nat.le_refl _)
 have hspl:(Lib.splitB ⟨#[46]⟩ 0 (Lib.countB s ⟨#[46]⟩) s).map (·.data.toList)=spl 46 s.data.toList:=hmap.trans (splitK_spl 46 s.data.toList)
 simp only[yap]
 generalize Lib.splitB ⟨#[46]⟩ 0 (Lib.countB s ⟨#[46]⟩) s=t at hspl hlen
 unfold addrL
 rw[← hspl,List.length_map,all_map]
 have h1:=all_loop (l:=t) (⟨#[]⟩:ByteArray) (λx=>okP x.data.toList) (λm k=>ycW.J1 n m (t,((t.length:Nat):Int),k,())) (some (true,())) (some (false,()))
  (λm k hk=>by
   try dsimp only
   rw[ycW.e1,yap,decide_eq_true (by omega),yaq,yar ⟨by omega,by omega⟩,Int.toNat_natCast,Nat.zero_add,ybp k (by omega)]
   generalize t.getD k ⟨#[]⟩=x
   simp only[yap]
   rw[size0]
   unfold okP
   have hx:=yfj x
   have e1:decide (x.size=0)=!decide (1≤x.data.toList.length):=yeo (by omega)
   have e2:decide ((x.size:Int)>3)=!decide (x.data.toList.length≤3):=yeo (by omega)
   rw[e1,e2]
   by_cases h3:x.data.toList.length≤3
   ·unfold yfm.f
    rw[if_pos ⟨by omega,by decide,by decide⟩,yab,decide_eq_true h3]
    have e3:eqS (⟨(Lib.trimS x.data.toList digT).toArray⟩:ByteArray) ⟨#[]⟩=x.data.toList.all digB:=by
     rw[size0]
     have hz:((⟨(Lib.trimS x.data.toList digT).toArray⟩:ByteArray).size=0)↔x.data.toList.all digB=true:=by
      rw[← trimS_nil]
      simp[ByteArray.size]
     by_cases h:x.data.toList.all digB=true
     ·rw[h,decide_eq_true (hz.2 h)]
     ·rw[decide_eq_false (λh'=>h (hz.1 h'))];simpa using h
    rw[show (#[48,49,50,51,52,53,54,55,56,57]:Array UInt8).toList=digT from rfl,e3]
    cases decide (1≤x.data.toList.length)<;>cases x.data.toList.all digB<;>rfl
   ·rw[decide_eq_false h3]
    cases decide (1≤x.data.toList.length)<;>rfl)
  (λm=>by
   try dsimp only
   rw[ycW.e1,yap,decide_eq_false (by omega),yaj,ycW.e2]) n 0 (by omega) (by omega)
 try dsimp only at h1
 rw[show ((0:Nat):Int)=0 from rfl]at h1
 by_cases h4:t.length=4
 ·rw[show (((t.length:Nat):Int) != 4)=false by rw[h4];rfl,yaj,h1,decide_eq_true h4,List.drop_zero,bIf_bool];rfl
 ·rw[show (((t.length:Nat):Int) != 4)=true by rw[bne_iff_ne];omega,yaq,decide_eq_false h4];rfl
def fourL:Nat→Nat→List UInt8→Bool
 | p,d,[]=>decide (p=3)&&decide (0<d)
 | p,d,b::r=>if b=46 then decide (0<d)&&fourL (p+1) 0 r else digB b&&(decide (d+1≤3)&&fourL p (d+1) r)
theorem fourL_spl:∀ (l:List UInt8) (p d:Nat),d≤3→fourL p d l=match spl 46 l with
  | []=>false
  | x::ps=>(decide (0<d+x.length)&&(decide (d+x.length≤3)&&x.all digB))&&(decide (p+ps.length=3)&&ps.all okP)
 | [],p,d,hd=>by
  unfold fourL spl
  simp only[List.length_nil,Nat.add_zero,List.all_nil,decide_eq_true hd,Bool.and_true,Bool.true_and]
  cases decide (p=3)<;>cases decide (0<d)<;>rfl
 | b :: r,p,d,hd=>by
  unfold fourL spl
  by_cases h:b=46
  ·rw[if_pos h,if_pos h,fourL_spl r (p+1) 0 (by omega)]
   cases hs:spl 46 r with
   | nil=>exact absurd hs (spl_ne 46 r)
   | cons x ps=>
    simp only[List.length_nil,Nat.add_zero,List.all_nil,decide_eq_true hd,Bool.and_true,List.length_cons,List.all_cons,Nat.zero_add]
    have e1:decide (p+1+ps.length=3)=decide (p+(ps.length+1)=3):=decide_eq_decide.2 (by omega)
    have e2:decide (0<x.length)=decide (1≤x.length):=rfl
    rw[e1,e2]
    unfold okP
    cases decide (0<d)<;>cases decide (1≤x.length)<;>cases decide (x.length≤3)<;>cases x.all digB<;>cases decide (p+(ps.length+1)=3)<;>cases ps.all okP<;>rfl
  ·rw[if_neg h,if_neg h]
   by_cases h3:d+1≤3
   ·rw[fourL_spl r p (d+1) h3]
    cases hs:spl 46 r with
    | nil=>exact absurd hs (spl_ne 46 r)
    | cons x ps=>
     simp only[List.length_cons,List.all_cons]
     rw[decide_eq_true h3,show d+1+x.length=d+(x.length+1) by omega]
     cases digB b<;>cases decide (0<d+(x.length+1))<;>cases decide (d+(x.length+1)≤3)<;>cases x.all digB<;>rfl
   ·rw[decide_eq_false h3]
    cases hs:spl 46 r with
    | nil=>exact absurd hs (spl_ne 46 r)
    | cons x ps=>
     simp only[List.length_cons]
     rw[decide_eq_false (show ¬ (d+(x.length+1)≤3) by omega)]
     simp
theorem fourL_addr (l:List UInt8):fourL 0 0 l=addrL l:=by
 rw[fourL_spl l 0 0 (by omega)]
 unfold addrL
 cases hs:spl 46 l with
 | nil=>exact absurd hs (spl_ne 46 l)
 | cons x ps=>
  simp only[List.length_cons,List.all_cons,Nat.zero_add]
  have e1:decide (ps.length=3)=decide (ps.length+1=4):=decide_eq_decide.2 (by omega)
  rw[e1]
  unfold okP
  have e2:decide (0<x.length)=decide (1≤x.length):=rfl
  rw[e2]
  cases decide (1≤x.length)<;>cases decide (x.length≤3)<;>cases x.all digB<;>cases decide (ps.length+1=4)<;>simp
theorem ref_four_J (n:Nat)(s:ByteArray)(hs:s.size≤63):∀ (m k p d:Nat),k≤s.size→s.size-k<m→p≤k→d≤3 →
  ydv.J1 n m (s,(p:Int),(d:Int),(k:Int),())=some (fourL p d (s.data.toList.drop k),())
 | 0,k,p,d,_,h,_,_=>by omega
 | m + 1,k,p,d,hk,h,hp,hd=>by
  have hsz:=yfj s
  rw[ydv.e1]
  simp only[yap]
  by_cases hlt:k<s.size
  ·rw[decide_eq_true (by omega),yaq,yar ⟨by omega,by omega⟩,bt_nat,drop_getD s.data.toList (k:=k) (by omega)]
   have e1:(((s.data.toList.getD k 0).toNat:Int)==46)=decide (s.data.toList.getD k 0=46):=u8_eq (c:=46) (by decide)
   rw[e1]
   generalize s.data.toList.getD k 0=b
   unfold fourL
   have ih:=λp' d' h1 h2=>ref_four_J n s hs m (k+1) p' d' (by omega) (by omega) h1 h2
   by_cases hb:b=46
   ·rw[decide_eq_true hb,yaq,if_pos hb]
    by_cases h0:0<d
    ·rw[beq_false_of_ne (by omega),yaj,decide_eq_true h0,Bool.true_and,ydv.e2,ybp k (by omega),ybp p (by omega)]
     exact ih (p+1) 0 (by omega) (by omega)
    ·rw[beq_iff_eq.2 (by omega),yaq,decide_eq_false h0];rfl
   ·rw[decide_eq_false hb,yaj,if_neg hb,yar ⟨by omega,by omega⟩,yar ⟨by omega,by omega⟩,ybp d (by omega)]
    unfold digB
    have e2:decide ((b.toNat:Int)<48)=!decide (48≤b.toNat):=yeo (by omega)
    have e3:decide ((b.toNat:Int)>57)=!decide (b.toNat≤57):=yeo (by omega)
    have e4:decide (((d+1:Nat):Int)>3)=!decide (d+1≤3):=yeo (by omega)
    rw[e2,e3,e4,ydv.e2,ybp k (by omega)]
    by_cases h3:d+1≤3
    ·rw[ih p (d+1) (by omega) h3,decide_eq_true h3]
     cases decide (48≤b.toNat)<;>cases decide (b.toNat≤57)<;>rfl
    ·rw[decide_eq_false h3]
     cases decide (48≤b.toNat)<;>cases decide (b.toNat≤57)<;>rfl
  ·have hkk:k=s.size:=by omega
   subst hkk
   rw[decide_eq_false (by omega),yaj,ydv.e3,hsz,List.drop_length]
   unfold fourL
   simp only[yap,yck]
   have e1:((p:Int)==3)=decide (p=3):=by
    by_cases h:p=3
    ·subst h;rfl
    ·rw[decide_eq_false h];exact beq_false_of_ne (by omega)
   have e2:decide ((d:Int)>0)=decide (0<d):=decide_eq_decide.2 (by omega)
   rw[e1,e2]
theorem ref_four {n:Nat}(hn:300≤n){s:ByteArray}(hs:s.size≤63):ydv.f n s=some (addrL s.data.toList,()):=by
 rw[ydv.e0]
 have:=ref_four_J n s hs n 0 0 0 (by omega) (by omega) (by omega) (by omega)
 rw[List.drop_zero,fourL_addr]at this
 exact this
def badN (c d:UInt8):Bool:=(decide (d=46)||decide (d=45))&&(decide (c=46)||decide (d=46))
def mid (c:UInt8):Bool:=decide (c=45)||decide (c=46)
def nxt (c:UInt8):List UInt8→Bool
 | []=>false
 | d::_=>!badN c d
def lab:Bool→List UInt8→Bool
 | _,[]=>true
 | first,c::r=>(lowB c||(mid c&&(!first&&nxt c r)))&&lab false r
def pairOk (p c:UInt8):Bool:=lowB c||(lowB p||(decide (c=45)&&decide (p=45)))
def rfl':Option UInt8→List UInt8→Bool
 | _,[]=>true
 | o,c::r=>(lowB c||mid c)&&((match o with | none=>true | some p=>pairOk p c)&&rfl' (some c) r)
def lastLow:List UInt8→Bool
 | []=>true
 | [c]=>lowB c
 | _::d::r=>lastLow (d::r)
theorem lab_rfl:∀ (r:List UInt8) (p:UInt8),(lowB p||mid p)=true→((lowB p||nxt p r)&&lab false r)=(lastLow (p::r)&&rfl' (some p) r)
 | [],p,hp=>by
  simp only[lab,rfl',lastLow,nxt,Bool.or_false]
 | c :: r,p,hp=>by
  have ih:=lab_rfl r c
  unfold lab rfl' lastLow
  by_cases hc:(lowB c||mid c)=true
  ·have ih:=ih hc
   rw[hc,Bool.true_and]
   have e1:(lowB c||(mid c&&(!false&&nxt c r)))=(lowB c||nxt c r):=by
    cases hl:lowB c
    ·rw[hl]at hc;simp only[Bool.false_or]at hc;rw[hc];simp
    ·simp
   rw[e1,ih]
   have e2:(lowB p||nxt p (c::r))=pairOk p c:=by
    unfold pairOk nxt badN
    unfold mid at hp hc
    cases hl:lowB p
    ·rw [hl]at hp
     cases hl2:lowB c
     ·rw[hl2]at hc
      by_cases a1:c=45
      ·by_cases a2:p=45
       ·subst a1 a2;rfl
       ·have a3:p=46:=by simpa[a2]using hp
        subst a1 a3;rfl
      ·have a3:c=46:=by simpa[a1]using hc
       subst a3;simp
     ·have:c≠46∧c≠45:=by constructor<;>(intro h;subst h;revert hl2;decide)
      simp[this.1,this.2]
    ·simp
   rw[e2]
   change (pairOk p c&&(lastLow (c::r)&&rfl' (some c) r))=(lastLow (c::r)&&(pairOk p c&&rfl' (some c) r))
   cases pairOk p c<;>cases lastLow (c::r)<;>simp
  ·have hl:lowB c=false:=by cases h:lowB c<;>simp_all
   have hm:mid c=false:=by cases h:mid c<;>simp_all
   rw[hl,hm];simp
def ybB (s:ByteArray):Bool:=decide (3≤s.size)&&(decide (s.size≤63)&&(!addrL s.data.toList&&lab true s.data.toList))
theorem lab_first (c:UInt8)(r:List UInt8)(hr:r≠[]):lab true (c::r)=(lowB c&&(lastLow (c::r)&&rfl' none (c::r))):=by
 conv=>lhs;unfold lab
 conv=>rhs;unfold rfl'
 cases hl:lowB c
 ·simp
 ·have:=lab_rfl r c (by rw[hl];rfl)
  rw[hl]at this
  simp only[Bool.true_or,Bool.true_and]at this ⊢
  rw[this]
theorem u8_ne {b:UInt8}{c:Nat}(hc:c<256):((b.toNat:Int) != (c:Int))=!decide (b=UInt8.ofNat c):=by rw[← u8_eq hc];rfl
theorem bucket_J (n:Nat)(s:ByteArray)(hs:s.size≤63):∀ (m k:Nat),k≤s.size→s.size-k<m →
  yb4.J2 n m (s,(s.size:Int),(k:Int),())=some (lab (decide (k=0)) (s.data.toList.drop k),())
 | 0,k,_,h=>by omega
 | m + 1,k,hk,h=>by
  have hsz:=yfj s
  rw[yb4.e2]
  simp only[yap]
  by_cases hlt:k<s.size
  ·have ih:=bucket_J n s hs m (k+1) (by omega) (by omega)
   rw[decide_eq_false (show ¬ (k+1=0) by omega)]at ih
   have hg:(0≤(k:Int)∧(k:Int)<(s.size:Int)):=⟨by omega,by omega⟩
   simp only[yar hg]
   rw[decide_eq_true (by omega),yaq,bt_nat,among_low,yab,ybp k (by omega),ih,yb6 (x:=(s.size:Int)-1) (by omega)]
   rw[drop_getD s.data.toList (k:=k) (by omega)]
   have e1:(((s.data.toList.getD k 0).toNat:Int) != 45)=!decide (s.data.toList.getD k 0=45):=u8_ne (c:=45) (by decide)
   have e2:(((s.data.toList.getD k 0).toNat:Int) != 46)=!decide (s.data.toList.getD k 0=46):=u8_ne (c:=46) (by decide)
   rw[e1,e2]
   generalize hc:s.data.toList.getD k 0=c
   conv=>rhs;unfold lab
   have e3:((k:Int)==0)=decide (k=0):=by
    by_cases h0:k=0
    ·subst h0;rfl
    ·rw[decide_eq_false h0];exact beq_false_of_ne (by omega)
   have e4:((k:Int)==(s.size:Int)-1)=decide (k+1=s.size):=by
    by_cases h0:k+1=s.size
    ·rw[decide_eq_true h0];exact beq_iff_eq.2 (by omega)
    ·rw[decide_eq_false h0];exact beq_false_of_ne (by omega)
   rw[e3,e4]
   cases hl:lowB c
   ·simp only[yaj]
    unfold mid
    by_cases hend:k+1=s.size
    ·rw[decide_eq_true hend,show s.data.toList.drop (k+1)=[] from List.drop_eq_nil_of_le (by omega)]
     cases decide (c=45)<;>cases decide (c=46)<;>cases decide (k=0)<;>rfl
    ·rw[decide_eq_false hend]
     have hJ3:yb4.J3 n m (s,(k:Int),(s.size:Int),(k:Int),())=some (!badN c (s.data.toList.getD (k+1) 0)&&lab false (s.data.toList.drop (k+1)),()):=by
      rw[yb4.e3,ybp k (by omega),yar ⟨by omega,by omega⟩,bt_nat,bt_nat,hc,ih]
      simp only[yap,yar hg]
      have f1:(((s.data.toList.getD (k+1) 0).toNat:Int)==46)=decide (s.data.toList.getD (k+1) 0=46):=u8_eq (c:=46) (by decide)
      have f2:(((s.data.toList.getD (k+1) 0).toNat:Int)==45)=decide (s.data.toList.getD (k+1) 0=45):=u8_eq (c:=45) (by decide)
      have f3:((c.toNat:Int)==46)=decide (c=46):=u8_eq (c:=46) (by decide)
      rw[f1,f2,f3]
      unfold badN
      cases decide (s.data.toList.getD (k+1) 0=46)<;>cases decide (s.data.toList.getD (k+1) 0=45)<;>cases decide (c=46)<;>rfl
     rw[hJ3]
     have hm:nxt c (s.data.toList.drop (k+1))=!badN c (s.data.toList.getD (k+1) 0):=by
      rw[drop_getD s.data.toList (k:=k+1) (by omega)];rfl
     rw[hm]
     cases decide (c=45)<;>cases decide (c=46)<;>cases decide (k=0)<;>simp[yaq,yaj]
   ·simp only[yaq,Bool.true_or,Bool.true_and]
  ·have hkk:k=s.size:=by omega
   subst hkk
   rw[decide_eq_false (by omega),yaj,yb4.e4,hsz,List.drop_length]
   rfl
theorem ya3 {n:Nat}(hn:300≤n)(s:ByteArray):yb4.f n s=some (ybB s,()):=by
 rw[yb4.e0]
 simp only[yap]
 unfold ybB
 have e1:decide ((s.size:Int)<3)=!decide (3≤s.size):=yeo (by omega)
 have e2:decide ((s.size:Int)>63)=!decide (s.size≤63):=yeo (by omega)
 rw[e1,e2]
 by_cases h:s.size≤63
 ·rw[label_address hn h,yab,decide_eq_true h,yb4.e1]
  have:=bucket_J n s h n 0 (by omega) (by omega)
  rw[show ((0:Nat):Int)=0 from rfl,List.drop_zero]at this
  rw[this]
  cases decide (3≤s.size)<;>cases addrL s.data.toList<;>simp[yaq,yaj]
 ·rw[decide_eq_false h]
  cases decide (3≤s.size)<;>rfl
def prevU (l:List UInt8)(k:Nat):Option UInt8:=if k=0 then none else some (l.getD (k-1) 0)
theorem ref_bucket_J (n:Nat)(s:ByteArray)(hs:s.size≤63):∀ (m k:Nat),k≤s.size→s.size-k<m →
  yb3.J2 n m (s,(k:Int),())=some (rfl' (prevU s.data.toList k) (s.data.toList.drop k),())
 | 0,k,_,h=>by omega
 | m + 1,k,hk,h=>by
  have hsz:=yfj s
  rw[yb3.e2]
  simp only[yap]
  by_cases hlt:k<s.size
  ·have ih:=ref_bucket_J n s hs m (k+1) (by omega) (by omega)
   have hg:(0≤(k:Int)∧(k:Int)<(s.size:Int)):=⟨by omega,by omega⟩
   simp only[yar hg]
   rw[decide_eq_true (by omega),yaq,bt_nat,ref_low,yab]
   rw[drop_getD s.data.toList (k:=k) (by omega)]
   have e1:(((s.data.toList.getD k 0).toNat:Int) != 45)=!decide (s.data.toList.getD k 0=45):=u8_ne (c:=45) (by decide)
   have e2:(((s.data.toList.getD k 0).toNat:Int) != 46)=!decide (s.data.toList.getD k 0=46):=u8_ne (c:=46) (by decide)
   have e5:(((s.data.toList.getD k 0).toNat:Int)==45)=decide (s.data.toList.getD k 0=45):=u8_eq (c:=45) (by decide)
   rw[e1,e2]
   have hp:prevU s.data.toList (k+1)=some (s.data.toList.getD k 0):=by unfold prevU;rw[if_neg (by omega),Nat.add_sub_cancel]
   rw[hp]at ih
   have hJ4:yb3.J4 n m (s,(k:Int),())=some (rfl' (some (s.data.toList.getD k 0)) (s.data.toList.drop (k+1)),()):=by
    rw[yb3.e4,ybp k (by omega),ih]
   have hJ3:yb3.J3 n m (s,(k:Int),())=some ((match prevU s.data.toList k with | none=>true | some p=>pairOk p (s.data.toList.getD k 0))&&rfl' (some (s.data.toList.getD k 0)) (s.data.toList.drop (k+1)),()):=by
    rw[yb3.e3]
    simp only[yap,yar hg]
    by_cases h0:k=0
    ·subst h0
     rw[decide_eq_false (by omega),yaj,hJ4];rfl
    ·have hw:IntKind.i64.wrap ((k:Int)-1)=((k-1:Nat):Int):=by rw[yb6 (by omega)];omega
     have hg2:(0≤((k-1:Nat):Int)∧((k-1:Nat):Int)<(s.size:Int)):=⟨by omega,by omega⟩
     rw[hw,decide_eq_true (by omega),yaq]
     simp only[yar hg2]
     rw[bt_nat,bt_nat,ref_low,ref_low,yab,yab,e5,hJ4]
     have e6:(((s.data.toList.getD (k-1) 0).toNat:Int)==45)=decide (s.data.toList.getD (k-1) 0=45):=u8_eq (c:=45) (by decide)
     rw[e6]
     unfold prevU
     rw[if_neg h0]
     change _=some (pairOk (s.data.toList.getD (k-1) 0) (s.data.toList.getD k 0)&&rfl' (some (s.data.toList.getD k 0)) (s.data.toList.drop (k+1)),())
     unfold pairOk
     generalize s.data.toList.getD k 0=c
     generalize s.data.toList.getD (k-1) 0=p
     cases lowB c<;>cases lowB p<;>cases decide (c=45)<;>cases decide (p=45)<;>rfl
   rw[hJ3]
   conv=>rhs;unfold rfl'
   unfold mid
   generalize s.data.toList.getD k 0=c
   cases lowB c<;>cases decide (c=45)<;>cases decide (c=46)<;>simp[yaq,yaj]
  ·have hkk:k=s.size:=by omega
   subst hkk
   rw[decide_eq_false (by omega),yaj,yb3.e5,hsz,List.drop_length]
   cases prevU s.data.toList s.data.toList.length<;>rfl
theorem lastLow_getD:∀ (l:List UInt8),l≠[]→lastLow l=lowB (l.getD (l.length-1) 0)
 | [],h=>absurd rfl h
 | [c],_=>rfl
 | c::d::r,_=>by
  unfold lastLow
  rw[lastLow_getD (d::r) (by simp)]
  simp
theorem ref06_Bucket {n:Nat}(hn:300≤n)(s:ByteArray):yb3.f n s=some (ybB s,()):=by
 rw[yb3.e0]
 simp only[yap]
 unfold ybB
 have e1:decide ((s.size:Int)<3)=!decide (3≤s.size):=yeo (by omega)
 have e2:decide ((s.size:Int)>63)=!decide (s.size≤63):=yeo (by omega)
 rw[e1,e2]
 by_cases h3:3≤s.size
 ·by_cases h:s.size≤63
  ·have hsz:=yfj s
   have hw:IntKind.i64.wrap ((s.size:Int)-1)=((s.size-1:Nat):Int):=by rw[yb6 (by omega)];omega
   have hg0:(0≤(0:Int)∧(0:Int)<(s.size:Int)):=⟨by omega,by omega⟩
   have hg1:(0≤((s.size-1:Nat):Int)∧((s.size-1:Nat):Int)<(s.size:Int)):=⟨by omega,by omega⟩
   simp only[hw,yar hg0,yar hg1]
   rw[decide_eq_true h3,decide_eq_true h,show bt s 0=bt s ((0:Nat):Int) from rfl,bt_nat,bt_nat,ref_low,ref_low,yab,yab,ref_four hn h,yab,yb3.e1]
   have:=ref_bucket_J n s h n 0 (by omega) (by omega)
   rw[show ((0:Nat):Int)=0 from rfl,List.drop_zero]at this
   rw[this]
   cases hl:s.data.toList with
   | nil=>exact absurd (congrArg List.length hl) (by rw[← hsz];simp only[List.length_nil];omega)
   | cons c r=>
    have hr:r≠[]:=by
     intro hr;subst hr;rw[hl]at hsz;simp at hsz;omega
    rw[lab_first c r hr,lastLow_getD (c::r) (by simp)]
    have ea:(c::r).getD 0 0=c:=rfl
    have eb:(c::r).length=s.size:=by rw[hsz,hl]
    rw[ea,eb]
    have ep:prevU (c::r) 0=none:=rfl
    rw[ep]
    cases lowB c<;>cases lowB ((c::r).getD (s.size-1) 0)<;>cases addrL (c::r)<;>simp[yaq,yaj]
  ·rw[decide_eq_false h]
   cases decide (3≤s.size)<;>rfl
 ·rw[decide_eq_false h3];rfl
end Go.Proofs.YtdlkpmohjhjmfaaGreatDoor
namespace Go.Proofs.YtdlkpmohjhjmfaaGreatDoor
open Go Go.Va Go.Proofs
theorem zip_loop {α:Type}{a b:List α}(d:α)(q:α→α→Bool)(J:Nat→Int→Option (Bool×Unit))(hab:a.length=b.length)
  (hs:∀ m (k:Nat),k<a.length→J (m+1) (k:Int)=bIf (q (a.getD k d) (b.getD k d)) (J m ((k+1:Nat):Int)) (some (false,())))
  (he:∀ m,J (m+1) ((a.length:Nat):Int)=some (true,())) :
  ∀ (m k:Nat),k≤a.length→a.length-k<m→J m (k:Int)=some (allB q (a.drop k) (b.drop k),())
 | 0,k,_,h=>by omega
 | m+1,k,hk,h=>by
  by_cases hlt:k<a.length
  ·rw[hs m k hlt,zip_loop d q J hab hs he m (k+1) (by omega) (by omega),allB_step d hlt (by omega)]
   cases q (a.getD k d) (b.getD k d)<;>rfl
  ·have:k=a.length:=by omega
   subst this
   rw[he,allB_end (by omega) (by omega)]
theorem ne_len {α β:Type}(a:List α)(b:List β):(((a.length:Nat):Int) != ((b.length:Nat):Int))=!decide (a.length=b.length):=by
 rw[bne,show ((((a.length:Nat):Int)==((b.length:Nat):Int)))=decide (((a.length:Nat):Int)=((b.length:Nat):Int)) from rfl]
 congr 1;exact decide_eq_decide.2 (by omega)
def sameR (a b:yau):Bool:=eqS a.1 b.1&&((a.2.2.1==b.2.2.1)&&((a.2.2.2.1==b.2.2.2.1)&&((a.2.2.2.2.1==b.2.2.2.2.1)&&allB sameT a.2.1 b.2.1)))
theorem entry_sameRule {n:Nat}(hn:n≤536870912){a b:yau}(ha:RuB n a):ydK.f n a b=some (sameR a b,()):=by
 rw[ydK.e0,same48 hn ha.tags.1]
 simp only[yap,yab,yck];rfl
theorem entry_SameRules {n:Nat}(hn:n≤536870912){a b:List yau}(ha:RusB n a):ydA.f n a b=some (allB sameR a b,()):=by
 have hlen:=ha.len
 rw[ydA.e0,ybI.e0,yap,ne_len]
 by_cases h:a.length=b.length
 ·have:=zip_loop (Va.dflt yaC) sameR (λm k=>ybI.J1 n m (b,a,((a.length:Nat):Int),k,())) h
   (λm k hk=>by
    try dsimp only
    rw[ybI.e1,yap,decide_eq_true (by omega),yaq,yar ⟨by omega,by omega⟩,yar ⟨by omega,by omega⟩,Int.toNat_natCast,entry_sameRule hn (ha.all _ (yc5 hk)),ybp k (by omega),yab]
    cases sameR _ _<;>rfl)
   (λm=>by
    try dsimp only
    rw[ybI.e1,yap,decide_eq_false (by omega),yaj,ybI.e2]) n 0 (by omega) (by omega)
  try dsimp only at this
  rw[show ((0:Nat):Int)=0 from rfl]at this
  rw[decide_eq_true h,Bool.not_true,yaj,this,yab];rfl
 ·rw[decide_eq_false h,Bool.not_false,yaq,yab,yfu a b h]
theorem ref14_SameRules {n:Nat}(hn:n≤536870912){a b:List yau}(ha:RusB n a):yce.f n a b=some (allB sameR a b,()):=by
 have hlen:=ha.len
 rw[yce.e0,yap,ne_len]
 by_cases h:a.length=b.length
 ·have:=zip_loop (Va.dflt yaC) sameR (λm k=>yce.J1 n m (a,b,k,())) h
   (λm k hk=>by
    have hr:=ha.all _ (yc5 (d:=Va.dflt yaC) hk)
    have g1:(0≤(k:Int)∧(k:Int)<((a.length:Nat):Int)):=⟨by omega,by omega⟩
    have g2:(0≤(k:Int)∧(k:Int)<((b.length:Nat):Int)):=⟨by omega,by omega⟩
    try dsimp only
    rw[yce.e1,yap,decide_eq_true (by omega),yaq]
    simp only[yar g1,yar g2,Int.toNat_natCast,yce.e2,ybp k (by omega),yap]
    generalize a.getD k (Va.dflt yaC)=x at hr
    generalize b.getD k (Va.dflt yaC)=y
    rw[same32 hn hr.tags.1,yab,bne,bne]
    unfold sameR
    cases eqS x.1 y.1<;>cases (x.2.2.1==y.2.2.1)<;>cases (x.2.2.2.1==y.2.2.2.1)<;>cases (x.2.2.2.2.1==y.2.2.2.2.1)<;>cases allB sameT x.2.1 y.2.1<;>rfl)
   (λm=>by
    try dsimp only
    rw[yce.e1,yap,decide_eq_false (by omega),yaj,yce.e3]) n 0 (by omega) (by omega)
  try dsimp only at this
  rw[show ((0:Nat):Int)=0 from rfl]at this
  rw[decide_eq_true h,Bool.not_true,yaj,this];rfl
 ·rw[decide_eq_false h,Bool.not_false,yaq,yfu a b h]
def sameG (a b:yat):Bool:=eqD yaD a b
theorem slices_Equal_Grant {n:Nat}(hn:n≤536870912){a b:List yat}(ha:GrsB n a):ybX.f n a b=some (allB sameG a b,()):=by
 have hlen:=ha.len
 rw[ybX.e0,yap,ne_len]
 by_cases h:a.length=b.length
 ·have:=zip_loop (Va.dflt yaD) sameG (λm k=>ybX.J1 n m (a,b,((a.length:Nat):Int),k,())) h
   (λm k hk=>by
    try dsimp only
    rw[ybX.e1,yap,decide_eq_true (by omega),yaq,yar ⟨by omega,by omega⟩,yar ⟨by omega,by omega⟩,Int.toNat_natCast,ybp k (by omega),yap]
    unfold sameG
    cases eqD yaD _ _<;>rfl)
   (λm=>by
    try dsimp only
    rw[ybX.e1,yap,decide_eq_false (by omega),yaj,ybX.e2]) n 0 (by omega) (by omega)
  try dsimp only at this
  rw[show ((0:Nat):Int)=0 from rfl]at this
  rw[decide_eq_true h,Bool.not_true,yaj,this];rfl
 ·rw[decide_eq_false h,Bool.not_false,yaq,yfu a b h]
theorem ref14_SameGrants {n:Nat}(hn:n≤536870912){a b:List yat}(ha:GrsB n a):ych.f n a b=some (allB sameG a b,()):=by
 have hlen:=ha.len
 rw[ych.e0,yap,ne_len]
 by_cases h:a.length=b.length
 ·have:=zip_loop (Va.dflt yaD) sameG (λm k=>ych.J1 n m (a,b,k,())) h
   (λm k hk=>by
    try dsimp only
    rw[ych.e1,yap,decide_eq_true (by omega),yaq,yar ⟨by omega,by omega⟩,yar ⟨by omega,by omega⟩,Int.toNat_natCast,ybp k (by omega),yap]
    unfold sameG
    cases eqD yaD _ _<;>rfl)
   (λm=>by
    try dsimp only
    rw[ych.e1,yap,decide_eq_false (by omega),yaj,ych.e2]) n 0 (by omega) (by omega)
  try dsimp only at this
  rw[show ((0:Nat):Int)=0 from rfl]at this
  rw[decide_eq_true h,Bool.not_true,yaj,this];rfl
 ·rw[decide_eq_false h,Bool.not_false,yaq,yfu a b h]
abbrev E:Type:=yeO
structure EB (n:Nat)(e:E):Prop where
 buck:e.2.2.1.size<n
 key:e.2.2.2.1.size<n
 id:0≤e.2.2.2.2.1
 ver:VB n e.2.2.2.2.2.1
 tags:TsB n e.2.2.2.2.2.2.2.1
 rules:RusB n e.2.2.2.2.2.2.2.2.2.1
 grants:GrsB n e.2.2.2.2.2.2.2.2.2.2.1
def sameE (a b:E):Bool:=(a.1==b.1)&&((a.2.1==b.2.1)&&(eqS a.2.2.1 b.2.2.1&&(eqS a.2.2.2.1 b.2.2.2.1&&((a.2.2.2.2.1==b.2.2.2.2.1)&&(eqD yaO a.2.2.2.2.2.2.1 b.2.2.2.2.2.2.1&&(eqD yaA a.2.2.2.2.2.2.2.2.1 b.2.2.2.2.2.2.2.2.1&&(eqD T_api_Part a.2.2.2.2.2.2.2.2.2.2.2.1 b.2.2.2.2.2.2.2.2.2.2.2.1&&(sameV a.2.2.2.2.2.1 b.2.2.2.2.2.1&&(allB sameT a.2.2.2.2.2.2.2.1 b.2.2.2.2.2.2.2.1&&(allB sameR a.2.2.2.2.2.2.2.2.2.1 b.2.2.2.2.2.2.2.2.2.1&&allB sameG a.2.2.2.2.2.2.2.2.2.2.1 b.2.2.2.2.2.2.2.2.2.2.1))))))))))
theorem ref14_Same {n:Nat}(hn:n≤536870912){a b:E}(ha:EB n a):ydW.f n a b=some (sameE a b,()):=by
 rw[ydW.e0,ydW.e1,sameV17 hn ha.ver.tags.1,same32 hn ha.tags.1,ref14_SameRules hn ha.rules,ref14_SameGrants hn ha.grants]
 simp only[yap,yab,yck,ycJ,bne,Bool.not_not];rfl
structure EsB (n:Nat)(l:List E):Prop where
 len:l.length<n
 all:∀ e∈l,EB n e
def hasB (k:Int):ByteArray:=
 if k=1∨k=2∨k=3 then ⟨#[46]⟩ else if k=4 then ⟨#[100]⟩ else if k=5 then ⟨#[114]⟩ else if k=6 then ⟨#[103]⟩ else if k=7 then ⟨#[107,118]⟩
 else if k=8 then ⟨#[107,105]⟩ else if k=9 then ⟨#[107,105,108]⟩ else if k=10∨k=11 then ⟨#[107,105,116]⟩ else if k=12 then ⟨#[105,112]⟩ else if k=13 then ⟨#[105]⟩ else ⟨#[]⟩
def inB (s:ByteArray)(c:Nat):Bool:=s.data.toList.any λb=>decide (b=UInt8.ofNat c)
def fld (h:ByteArray)(c:Nat)(good zero:Bool):Bool:=if inB h c then good else zero
abbrev verZ:Ver:=(0,(false,(0,(0,((List.replicate 32 0),(0,((0,(0,(false,()))),([],()))))))))
end Go.Proofs.YtdlkpmohjhjmfaaGreatDoor
namespace Go.Proofs.YtdlkpmohjhjmfaaGreatDoor
open Go Go.Va Go.Proofs
abbrev lockZ:yaZ:=(0,(0,(false,())))
abbrev partZ:D_api_Part:=(0,(0,(0,((List.replicate 32 0),()))))
theorem partRefl (p:D_api_Part):eqD T_api_Part p p=true:=by
 change (decide (p.1=p.1)&&(decide (p.2.1=p.2.1)&&(decide (p.2.2.1=p.2.2.1)&&(eqD (.arr 32 (.int .u8)) p.2.2.2.1 p.2.2.2.1&&true))))=true
 rw[digRefl,decide_eq_true rfl,decide_eq_true rfl,decide_eq_true rfl];rfl
theorem yec (p:yaL):eqD yaA p p=true:=by
 change (decide (p.1=p.1)&&(decide (p.2.1=p.2.1)&&true))=true
 rw[decide_eq_true rfl,decide_eq_true rfl];rfl
theorem c00:(((0:Nat):Int)==(0:Int))=true:=rfl
theorem VBz {n:Nat}(hn:0<n):VB n verZ:=⟨by decide,by decide,rfl,⟨hn,by intro t ht;exact nomatch ht⟩⟩
theorem ycP (b:ByteArray)(h:eqS b ⟨#[]⟩=true):ybB b=false:=by
 rw[size0,decide_eq_true_iff]at h
 unfold ybB
 rw[decide_eq_false (by omega)];rfl
end Go.Proofs.YtdlkpmohjhjmfaaGreatDoor
namespace Go.Proofs.YtdlkpmohjhjmfaaGreatDoor
open Go Go.Va Go.Proofs
def packF:Nat→Nat→List Int
 | 0,_=>[]
 | k+1,x=>if x<128 then [(x:Int)] else ((x%128+128:Nat):Int)::packF k (x/128)
def eN (x:Int):List Int:=packF 10 x.toNat
theorem packF_big {k x:Nat}(h:¬ x<128):packF (k+1) x=((x%128+128:Nat):Int)::packF k (x/128):=by rw[packF,if_neg h]
theorem packF_small {k x:Nat}(h:x<128):packF (k+1) x=[(x:Int)]:=by rw[packF,if_pos h]
theorem packF_len:∀ (k x:Nat),(packF k x).length≤k
 | 0,_=>Nat.le_refl 0
 | k+1,x=>by
  unfold packF
  split
  ·simp
  ·have:=packF_len k (x/128);simp;omega
theorem packF_pos {k:Nat}(x:Nat)(h:0<k):1≤(packF k x).length:=by
 cases k with
 | zero=>omega
 | succ k=>unfold packF;split<;>simp
theorem packF_byte:∀ (k x:Nat),∀ y∈packF k x,0≤y∧y≤255
 | 0,_=>by intro y h;exact nomatch h
 | k+1,x=>by
  intro y h
  unfold packF at h
  split at h
  ·rw[List.mem_singleton]at h;omega
  ·rcases List.mem_cons.1 h with h | h
   ·omega
   ·exact packF_byte k _ y h
theorem ydH (x:Int):(eN x).length≤10:=packF_len 10 _
theorem eN_byte (x:Int):∀ y∈eN x,0≤y∧y≤255:=packF_byte 10 _
def U64 (x:Int):Prop:=0≤x∧x<18446744073709551616
def I64 (x:Int):Prop := -9223372036854775808≤x∧x<9223372036854775808
theorem shr7 (k:IntKind)(hk:7≤k.bits)(x:Nat):shrI k (x:Int) 7=((x/128:Nat):Int):=by
 unfold shrI
 rw[show ((7:Int).toNat)=7 from rfl,Nat.min_eq_left hk,Int.fdiv_eq_ediv_of_nonneg _ (by decide),show ((2:Int) ^ 7)=128 from rfl];omega
theorem or128:∀ v:Nat,v<256→bitI .or .u8 (v:Int) 128=((v%128+128:Nat):Int):=by decide +kernel
theorem u8_low (x:Nat):IntKind.u8.wrap (x:Int)=((x%256:Nat):Int):=by rw[wrap_u8_mod];omega
theorem bits_Pack_J (n:Nat):∀ (k m x:Nat) (out:List Int),x<128 ^ (k+1)→k+1≤m→out.length+k+1≤70368744177664 →
  ydu.J1 n m ((x:Int),out,())=some (out++packF (k+1) x,())
 | k,0,x,out,hx,hm,ho=>by omega
 | k,m+1,x,out,hx,hm,ho=>by
  rw[ydu.e1,yap]
  by_cases h:x<128
  ·rw[decide_eq_false (by omega),yaj,ydu.e2,yar (by omega),u8_low,Nat.mod_eq_of_lt (by omega),packF,if_pos h]
  ·rw[decide_eq_true (by omega),yaq,yar (by omega),yew (by decide),u8_low,or128 _ (by omega),shr7 _ (by decide)]
   cases k with
   | zero=>rw[Nat.zero_add,Nat.pow_one]at hx;omega
   | succ k=>
    rw[bits_Pack_J n k m (x/128) _ (by rw[Nat.div_lt_iff_lt_mul (by decide),← Nat.pow_succ];exact hx) (by omega) (by simp;omega),List.append_assoc]
    rw[packF_big h,show x%256%128=x%128 by omega];rfl
theorem u64_pow {x:Nat}(h:x<18446744073709551616):x<128 ^ (9+1):=Nat.lt_trans h (by decide)
theorem bits_Pack {n:Nat}(hn:300≤n){x:Int}(hx:U64 x):ydu.f n x=some (eN x,()):=by
 obtain⟨h0,h1⟩:=hx
 rw[ydu.e0]
 have:=bits_Pack_J n 9 n x.toNat [] (u64_pow (by omega)) (by omega) (by simp)
 rw[Int.toNat_of_nonneg h0]at this
 rw[this,List.nil_append];rfl
theorem set_last (pre:List Int)(a b:Int)(l:Nat)(h:l=pre.length):List.set (pre++[a]) l b=pre++[b]:=by
 subst h;rw[List.set_append_right _ _ (Nat.le_refl _)];simp
theorem getD_last (pre:List Int)(a:Int)(l:Nat)(h:l=pre.length):List.getD (pre++[a]) l 0=a:=by
 subst h;simp
theorem ref01_Pack_J (n:Nat):∀ (k m x:Nat) (pre:List Int),x<128 ^ (k+1)→x<18446744073709551616→k+1≤m→pre.length+k+2≤70368744177664 →
  ydV.J1 n m ((x:Int),pre++[((x%128:Nat):Int)],())=some (pre++packF (k+1) x,())
 | k,0,x,pre,hx,h64,hm,ho=>by omega
 | k,m+1,x,pre,hx,h64,hm,ho=>by
  rw[ydV.e1,yap]
  by_cases h:x<128
  ·rw[decide_eq_false (by omega),yaj,ydV.e2,Nat.mod_eq_of_lt h,packF,if_pos h]
  ·have hl:IntKind.i64.wrap ((((pre++[((x%128:Nat):Int)]).length:Nat):Int)-1)=((pre.length:Nat):Int):=by
    rw[List.length_append,List.length_singleton,yb6 (by omega)];omega
   rw[decide_eq_true (by omega),yaq,hl]
   have hg:(0≤((pre.length:Nat):Int)∧((pre.length:Nat):Int)<(((pre++[((x%128:Nat):Int)]).length:Nat):Int)):=by
    rw[List.length_append,List.length_singleton];omega
   rw[yar hg,yar hg,yew (by decide),yew (by decide),Int.toNat_natCast,Nat.zero_add,set_last _ _ _ _ rfl,getD_last _ _ _ rfl,yar (by simp;omega)]
   have hd:Int.tdiv (x:Int) 128=((x/128:Nat):Int):=rfl
   rw[hd,ydD (by omega)]
   have hd2:Int.tmod ((x/128:Nat):Int) 128=((x/128%128:Nat):Int):=rfl
   rw[hd2,u8_low,Nat.mod_eq_of_lt (show x/128%128<256 by omega),show (((x%128:Nat):Int)+128)=((x%128+128:Nat):Int) by omega,u8_low,Nat.mod_eq_of_lt (show x%128+128<256 by omega)]
   cases k with
   | zero=>rw[Nat.zero_add,Nat.pow_one]at hx;omega
   | succ k=>
    rw[ref01_Pack_J n k m (x/128) _ (by rw[Nat.div_lt_iff_lt_mul (by decide),← Nat.pow_succ];exact hx) (by omega) (by omega) (by simp;omega),List.append_assoc]
    rw[packF_big h];rfl
theorem ref01_Pack {n:Nat}(hn:300≤n){x:Int}(hx:U64 x):ydV.f n x=some (eN x,()):=by
 obtain⟨h0,h1⟩:=hx
 rw[ydV.e0,yew (by decide)]
 have:=ref01_Pack_J n 9 n x.toNat [] (u64_pow (by omega)) (by omega) (by omega) (by simp)
 rw[Int.toNat_of_nonneg h0,List.nil_append]at this
 have hd:Int.tmod x 128=((x.toNat%128:Nat):Int):=by
  obtain⟨y,rfl⟩:=Int.eq_ofNat_of_zero_le h0;rfl
 rw[hd,u8_low,Nat.mod_eq_of_lt (by omega),this,List.nil_append];rfl
theorem ref10_Num {n:Nat}(hn:300≤n){x:Int}(hx:U64 x):ybz.f n x=some (yaT (eN x),()):=by
 rw[ybz.e0,ref01_Pack hn hx,yab]
def zigI (t:Int):Int:=if 0≤t then 2*t else -2*t-1
def zagI (u:Int):Int:=if u%2=0 then u/2 else -(u/2)-1
theorem zig_U64 {t:Int}(h:I64 t):U64 (zigI t):=by unfold zigI U64;obtain⟨h1,h2⟩:=h;split<;>omega
theorem zag_zig (t:Int):zagI (zigI t)=t:=by unfold zigI zagI;split<;>split<;>omega
theorem xor_ones64 (x:BitVec 64):(x ^^^ (BitVec.ofInt 64 (-1))).toNat=2 ^ 64-1-x.toNat:=by
 rw[show (BitVec.ofInt 64 (-1))=BitVec.allOnes 64 by decide,BitVec.xor_allOnes,BitVec.toNat_not]
theorem xor_zero64 (x:BitVec 64):(x ^^^ (BitVec.ofInt 64 0)).toNat=x.toNat:=by
 rw[show (BitVec.ofInt 64 0)=0#64 by decide,BitVec.xor_zero]
theorem yfw {x:Int}(h:U64 x):(BitVec.ofInt 64 x).toNat=x.toNat:=by
 obtain⟨h1,h2⟩:=h
 rw[BitVec.toNat_ofInt];omega
theorem shr63 {t:Int}(h:I64 t):shrI .i64 t 63=if 0≤t then 0 else -1:=by
 obtain⟨h1,h2⟩:=h
 unfold shrI
 rw[show (min (63:Int).toNat IntKind.i64.bits)=63 from rfl,Int.fdiv_eq_ediv_of_nonneg _ (by decide),show ((2:Int) ^ 63)=9223372036854775808 from rfl]
 split<;>omega
theorem bits_Zig (n:Nat){t:Int}(h:I64 t):yfC.f n t=some (zigI t,()):=by
 rw[yfC.e0,yew (by decide),yew (by decide),shr63 h]
 obtain⟨h1,h2⟩:=h
 have hs:shlI .u64 (IntKind.u64.wrap t) 1=(2*t)%18446744073709551616:=by
  unfold shlI
  rw[show (min (1:Int).toNat IntKind.u64.bits)=1 from rfl,wrap_u64_mod,wrap_u64_mod];omega
 have hu:U64 ((2*t)%18446744073709551616):=by unfold U64;omega
 rw[hs]
 unfold bitI
 try dsimp only
 rw[show IntKind.u64.bits=64 from rfl]
 by_cases h0:0≤t
 ·rw[if_pos h0,show IntKind.u64.wrap 0=0 from rfl,xor_zero64,yfw hu,ydD (by omega)]
  unfold zigI
  rw[if_pos h0];congr 2;omega
 ·rw[if_neg h0,show BitVec.ofInt 64 (IntKind.u64.wrap (-1))=BitVec.ofInt 64 (-1) by decide,xor_ones64,yfw hu,ydD (by omega)]
  unfold zigI
  rw[if_neg h0];congr 2;omega
theorem ref01_Zig (n:Nat){t:Int}(h:I64 t):ye9.f n t=some (zigI t,()):=by
 obtain⟨h1,h2⟩:=h
 rw[ye9.e0,yap]
 unfold zigI
 by_cases h0:0≤t
 ·rw[decide_eq_true (by omega),yaq,if_pos h0,ydD (x:=t) (by omega),ydD (by omega)]
 ·rw[decide_eq_false (by omega),yaj,if_neg h0,yb6 (x:=t+1) (by omega),yb6 (by omega),ydD (x:=0-(t+1)) (by omega),ydD (x:=2*_) (by omega),ydD (by omega)]
  congr 2;omega
end Go.Proofs.YtdlkpmohjhjmfaaGreatDoor
namespace Go.Proofs.YtdlkpmohjhjmfaaGreatDoor
open Go Go.Va Go.Proofs
theorem andNot128:∀ v:Nat,v<256→bitI .andNot .u8 (v:Int) 128=((v%128:Nat):Int):=by decide +kernel
theorem shr7_u8 (x:Nat):shrI .u8 (x:Int) 7=((x/128:Nat):Int):=shr7 _ (by decide) x
theorem orsh {i v c:Nat}(hi:i≤9)(hv:v<128 ^ i)(hs:v+c*128 ^ i<18446744073709551616) :
  bitI .or .u64 (v:Int) (shlI .u64 (c:Int) ((7*i:Nat):Int))=((v+c*128 ^ i:Nat):Int):=by
 have h7:(128:Nat) ^ i=2 ^ (7*i):=by rw[Nat.pow_mul]
 have e1:shlI .u64 (c:Int) ((7*i:Nat):Int)=((c*128 ^ i:Nat):Int):=by
  unfold shlI
  rw[Int.toNat_natCast,Nat.min_eq_left (show 7*i≤IntKind.u64.bits by change 7*i≤64;omega),show ((c:Int)*2 ^ (7*i))=((c*128 ^ i:Nat):Int) by rw[h7];push_cast;rfl,ydD (by omega)]
 rw[e1]
 unfold bitI
 try dsimp only
 rw[show IntKind.u64.bits=64 from rfl,BitVec.toNat_or,yfw ⟨by omega,by omega⟩,yfw ⟨by omega,by omega⟩,Int.toNat_natCast,Int.toNat_natCast]
 have e2:v ||| c*128 ^ i=v+c*128 ^ i:=by
  rw[h7]at hv ⊢
  rw[Nat.or_comm,Nat.mul_comm,← Nat.two_pow_add_eq_or_of_lt hv,Nat.add_comm]
 rw[e2,ydD (by omega)]
theorem yft (x:Int):U64 (IntKind.u64.wrap x):=by rw[wrap_u64_mod];unfold U64;omega
theorem bitI_U64 (op:BinOp)(x y:Int):U64 (bitI op .u64 x y):=by
 unfold bitI;dsimp only;split<;>exact yft _
structure BB (n:Nat)(b:List Int):Prop where
 len:b.length<n
 byte:∀ x∈b,0≤x∧x≤255
theorem BB_nil {n:Nat}(h:0<n):BB n []:=⟨h,by intro x h;exact nomatch h⟩
theorem BB_drop {n:Nat}{b:List Int}(h:BB n b)(k:Nat):BB n (b.drop k):=⟨by have:=h.len;rw[List.length_drop];omega,λx hx=>h.byte x (List.mem_of_mem_drop hx)⟩
theorem BB_take {n:Nat}{b:List Int}(h:BB n b)(k:Nat):BB n (b.take k):=⟨by have:=h.len;rw[List.length_take];omega,λx hx=>h.byte x (List.mem_of_mem_take hx)⟩
theorem bits_Unpack_J3 {n:Nat}(hn:n≤536870912)(h3:300≤n){b:List Int}(hb:BB n b)(m:Nat)(v x:Int)(k:Nat)(hk:k<b.length)
  (ih:∀ v,U64 v→∃ (w u e:Int),yby.J1 n m (b,v,b,((b.length:Nat):Int),((k+1:Nat):Int),())=some (w,u,e,())∧U64 w∧0≤u∧u≤b.length∧0≤e∧e≤3) :
  ∃ (w u e:Int),yby.J3 n m (b,v,(k:Int),x,b,((b.length:Nat):Int),(k:Int),())=some (w,u,e,())∧U64 w∧0≤u∧u≤b.length∧0≤e∧e≤3:=by
 have hl:=hb.len
 have hw:=bitI_U64 .or v (shlI .u64 (IntKind.u64.wrap (bitI .andNot .u8 x 128)) (IntKind.u64.wrap ((7:Int)*(IntKind.u64.wrap (k:Int)))))
 rw[yby.e3,yew (by have:=(yft ((7:Int)*(IntKind.u64.wrap (k:Int)))).1;omega),yew (by decide),ybp k (by omega),bits_Pack h3 hw,yab]
 generalize bitI .or .u64 v _=w at hw
 rw[yap]
 cases (shrI .u8 x 7 != 0)
 ·rw[yaj,yar ⟨by omega,by omega⟩,yar ⟨by omega,by omega⟩,ybn.e0,yab]
  cases hide (eqS _ _)
  ·exact⟨0,0,2,rfl,by unfold U64;omega,by omega,by omega,by omega,by omega⟩
  ·exact⟨w,((k+1:Nat):Int),0,rfl,hw,by omega,by omega,by omega,by omega⟩
 ·rw[yaq]
  exact ih w hw
theorem bits_Unpack_J {n:Nat}(hn:n≤536870912)(h3:300≤n){b:List Int}(hb:BB n b):∀ (m k:Nat) (v:Int),U64 v→k≤b.length→b.length-k<m →
  ∃ (w u e:Int),yby.J1 n m (b,v,b,((b.length:Nat):Int),(k:Int),())=some (w,u,e,())∧U64 w∧0≤u∧u≤b.length∧0≤e∧e≤3
 | 0,k,v,_,_,h=>by omega
 | m+1,k,v,hv,hk,h=>by
  have hl:=hb.len
  rw[yby.e1,yap]
  by_cases hlt:k<b.length
  ·rw[decide_eq_true (by omega),yaq,yar ⟨by omega,by omega⟩]
   have h3':=λx=>bits_Unpack_J3 hn h3 hb m v x k hlt (λv hv=>bits_Unpack_J hn h3 hb m (k+1) v hv (by omega) (by omega))
   simp only[yby.e2,yap]
   cases ((k:Int)==9)
   ·exact h3' _
   ·cases decide ((List.getD b (k:Int).toNat 0)>(1:Int))
    ·exact h3' _
    ·exact⟨0,0,2,rfl,by unfold U64;omega,by omega,by omega,by omega,by omega⟩
  ·rw[decide_eq_false (by omega),yaj,yby.e4]
   exact⟨0,0,3,rfl,by unfold U64;omega,by omega,by omega,by omega,by omega⟩
theorem bits_Unpack_any {n:Nat}(hn:n≤536870912)(h3:300≤n){b:List Int}(hb:BB n b) :
  ∃ (w u e:Int),yby.f n b=some (w,u,e,())∧U64 w∧0≤u∧u≤b.length∧0≤e∧e≤3:=by
 have hl:=hb.len
 rw[yby.e0]
 exact bits_Unpack_J hn h3 hb n 0 0 (by unfold U64;omega) (by omega) (by omega)
theorem bits_Unpack_enc {n:Nat}(hn:n≤536870912)(h3:300≤n){b rest:List Int}(hb:BB n b){x:Nat}(hx:x<18446744073709551616) :
  ∀ (k m i y v:Nat) (pre:List Int),pre.length=i→i+k=9→k<m→b=pre++(packF (k+1) y++rest)→pre++packF (k+1) y=eN (x:Int)→x=v+y*128 ^ i→v<128 ^ i→y<128 ^ (k+1) →
  yby.J1 n m (b,(v:Int),b,((b.length:Nat):Int),(i:Int),())=some ((x:Int),(((eN (x:Int)).length:Nat):Int),0,())
 | k,0,i,y,v,pre,hp,hi,hm,hbe,hen,hxe,hv,hy=>by omega
 | k,m+1,i,y,v,pre,hp,hi,hm,hbe,hen,hxe,hv,hy=>by
  have hl:=hb.len
  have hlen:i<b.length:=by
   have:=packF_pos (k:=k+1) y (by omega)
   rw[hbe];simp;omega
  have hor:∀ c:Nat,v+c*128 ^ i<18446744073709551616→bitI .or .u64 (v:Int) (shlI .u64 (c:Int) (IntKind.u64.wrap ((7:Int)*(IntKind.u64.wrap (i:Int)))))=((v+c*128 ^ i:Nat):Int):=by
   intro c hc
   rw[ydD (x:=(i:Int)) (by omega),ydD (by omega),show ((7:Int)*(i:Int))=((7*i:Nat):Int) by omega]
   exact orsh (by omega) hv hc
  rw[yby.e1,yap,decide_eq_true (by omega),yaq,yar ⟨by omega,by omega⟩,Int.toNat_natCast]
  simp only[yby.e2,yap]
  by_cases h:y<128
  ·have hc:b.getD i 0=(y:Int):=by
    rw[hbe,packF_small h]
    subst hp;simp
   have h9:((i:Int)==9)=true→decide ((y:Int)>1)=false:=by
    intro h9
    have:i=9:=by have:=beq_iff_eq.1 h9;omega
    subst this
    apply decide_eq_false
    rw[show (128:Nat) ^ 9=9223372036854775808 from rfl]at hxe
    omega
   have hg:bIf ((i:Int)==9) (bIf (decide (b.getD i 0>1)) (some (0,0,2,())) (yby.J3 n m (b,(v:Int),(i:Int),b.getD i 0,b,((b.length:Nat):Int),(i:Int),()))) (bIf false (some (0,0,2,())) (yby.J3 n m (b,(v:Int),(i:Int),b.getD i 0,b,((b.length:Nat):Int),(i:Int),())))=yby.J3 n m (b,(v:Int),(i:Int),b.getD i 0,b,((b.length:Nat):Int),(i:Int),()):=by
    rw[hc]
    cases hq:((i:Int)==9)
    ·rfl
    ·rw[h9 hq];rfl
   rw[hg,hc,yby.e3,yew (by have:=(yft ((7:Int)*(IntKind.u64.wrap (i:Int)))).1;omega),yew (by decide),yap,shr7_u8,Nat.div_eq_of_lt h,andNot128 y (by omega),Nat.mod_eq_of_lt h,ydD (x:=(y:Int)) (by omega),hor y (by omega),← hxe,ybp i (by omega),bits_Pack h3 ⟨by omega,by omega⟩,yab,
    yar ⟨by omega,by omega⟩,yar ⟨by omega,by omega⟩,ybn.e0,yab,Int.toNat_natCast,List.drop_zero]
   rw[packF_small h]at hen hbe
   have ht:b.take (i+1)=eN (x:Int):=by
    rw[← hen,hbe]
    subst hp
    rw[← List.append_assoc,List.take_append_of_le_length (by simp),List.take_of_length_le (by simp)]
   rw[ht,ybF,← hen,List.length_append,hp,yap,show (((0:Nat):Int) != 0)=false from rfl,yaj];rfl
  ·cases k with
   | zero=>rw[Nat.zero_add,Nat.pow_one]at hy;omega
   | succ k=>
    have hc:b.getD i 0=((y%128+128:Nat):Int):=by
     rw[hbe,packF_big h]
     subst hp;simp
    have h9:((i:Int)==9)=false:=by rw[beq_eq_false_iff_ne];omega
    have hdm:y%128+128*(y/128)=y:=Nat.mod_add_div y 128
    have e1:y%128*128 ^ i+y/128*128 ^ (i+1)=y*128 ^ i:=by
     rw[Nat.pow_succ,show y/128*(128 ^ i*128)=(128*(y/128))*128 ^ i by rw[Nat.mul_comm (128 ^ i) 128,← Nat.mul_assoc,Nat.mul_comm (y/128) 128],← Nat.add_mul,hdm]
    have e2:v+y%128*128 ^ i<128 ^ (i+1):=by
     have h1:y%128≤127:=by omega
     have h2:=Nat.mul_le_mul_right (128 ^ i) h1
     rw[Nat.pow_succ];omega
    rw[h9,yaj,yaj,hc,yby.e3,yew (by have:=(yft ((7:Int)*(IntKind.u64.wrap (i:Int)))).1;omega),yew (by decide),yap,shr7_u8,show (y%128+128)/128=1 by omega,andNot128 _ (by omega),show (y%128+128)%128=y%128 by omega,ydD (x:=((y%128:Nat):Int)) (by omega),hor _ (by omega),ybp i (by omega)]
    rw[packF_big h]at hen hbe
    exact bits_Unpack_enc (rest:=rest) hn h3 hb hx k m (i+1) (y/128) (v+y%128*128 ^ i) (pre++[((y%128+128:Nat):Int)]) (by simp;omega) (by omega) (by omega) (by rw[hbe];simp) (by rw[← hen];simp) (by omega) e2
     (by rw[Nat.div_lt_iff_lt_mul (by decide),← Nat.pow_succ];exact hy)
theorem bits_Unpack_eN {n:Nat}(hn:n≤536870912)(h3:300≤n){rest:List Int}{x:Int}(hx:U64 x)(hb:BB n (eN x++rest)) :
  yby.f n (eN x++rest)=some (x,(((eN x).length:Nat):Int),0,()):=by
 obtain⟨h0,h1⟩:=hx
 obtain⟨y,rfl⟩:=Int.eq_ofNat_of_zero_le h0
 rw[yby.e0]
 exact bits_Unpack_enc (rest:=rest) hn h3 hb (x:=y) (by omega) 9 n 0 y 0 [] rfl rfl (by omega) rfl rfl (by simp) (by simp) (u64_pow (by omega))
theorem bits_Zag (n:Nat){u:Int}(h:U64 u):yfy.f n u=some (zagI u,()):=by
 have hu:=h
 obtain⟨h0,h1⟩:=h
 obtain⟨y,rfl⟩:=Int.eq_ofNat_of_zero_le h0
 have ha:bitI .and .u64 (y:Int) 1=((y%2:Nat):Int):=by
  unfold bitI
  try dsimp only
  rw[show IntKind.u64.bits=64 from rfl,BitVec.toNat_and,yfw hu,show (BitVec.ofInt 64 1).toNat=1 from rfl,Int.toNat_natCast,Nat.and_one_is_mod,ydD (by omega)]
 have hs:shrI .u64 (y:Int) 1=((y/2:Nat):Int):=by
  unfold shrI
  rw[show (min (1:Int).toNat IntKind.u64.bits)=1 from rfl,Int.fdiv_eq_ediv_of_nonneg _ (by decide),show ((2:Int) ^ 1)=2 from rfl];omega
 rw[yfy.e0,yew (by decide),ha,hs,yb6 (x:=((y/2:Nat):Int)) (by omega),yb6 (x:=((y%2:Nat):Int)) (by omega),yb6 (x:=0-((y%2:Nat):Int)) (by omega)]
 unfold bitI
 try dsimp only
 rw[show IntKind.i64.bits=64 from rfl]
 unfold zagI
 rcases Nat.mod_two_eq_zero_or_one y with hm | hm
 ·rw[hm,show (0-((0:Nat):Int))=0 from rfl,xor_zero64,yfw ⟨by omega,by omega⟩,if_pos (by omega),Int.toNat_natCast,yb6 (by omega)];rfl
 ·rw[hm,show (0-((1:Nat):Int)) = -1 from rfl,xor_ones64,yfw ⟨by omega,by omega⟩,if_neg (by omega),Int.toNat_natCast]
  congr 2
  simp[IntKind.wrap,IntKind.bits,IntKind.signed];omega
theorem zag_I64 {u:Int}(h:U64 u):I64 (zagI u):=by unfold zagI I64;obtain⟨h1,h2⟩:=h;split<;>omega
end Go.Proofs.YtdlkpmohjhjmfaaGreatDoor
namespace Go.Proofs.YtdlkpmohjhjmfaaGreatDoor
open Go Go.Va Go.Proofs
def eW (x:Int):List Int:=eN (IntKind.u64.wrap x)
def eI (t:Int):List Int:=eN (zigI t)
def eF (b:Bool):List Int:=[if b then 1 else 0]
def eT (s:ByteArray):List Int:=eW (s.size:Int)++ybN s
def eTag (t:yaz):List Int:=eT t.1++eT t.2.1
def eTags (l:List yaz):List Int:=eW ((l.length:Nat):Int)++l.flatMap eTag
def eLock (l:yaZ):List Int:=eW l.1++(eI l.2.1++eF l.2.2.1)
def eVer (v:Ver):List Int:=eN v.1++(eF (mark v)++(eI (made v)++if mark v then [] else eW (vsize v)++(eN (blob v)++(dig v++(eLock (lock v)++eTags (tags v))))))
def eDef (d:yaL):List Int:=eW d.1++eW d.2.1
def eRule (r:yau):List Int:=eT r.1++(eTags r.2.1++(eW r.2.2.1++(eW r.2.2.2.1++eF r.2.2.2.2.1)))
def eRules (l:List yau):List Int:=eW ((l.length:Nat):Int)++l.flatMap eRule
def eGrant (g:yat):List Int:=eF g.1++(eT g.2.1++(eT g.2.2.1++eT g.2.2.2.1))
def eGrants (l:List yat):List Int:=eW ((l.length:Nat):Int)++l.flatMap eGrant
def ePart (p:D_api_Part):List Int:=eW p.1++(eW p.2.1++(eN p.2.2.1++p.2.2.2.1))
def fldE (e:E)(c:UInt8):List Int:=
 if c=107 then eT e.2.2.2.1 else if c=105 then eN e.2.2.2.2.1 else if c=118 then eVer e.2.2.2.2.2.1 else if c=108 then eLock e.2.2.2.2.2.2.1 else if c=116 then eTags e.2.2.2.2.2.2.2.1
 else if c=100 then eDef e.2.2.2.2.2.2.2.2.1 else if c=114 then eRules e.2.2.2.2.2.2.2.2.2.1 else if c=103 then eGrants e.2.2.2.2.2.2.2.2.2.2.1 else if c=112 then ePart e.2.2.2.2.2.2.2.2.2.2.2.1 else []
def eE (e:E):List Int:=eW e.1++(eI e.2.1++((if e.1=1 then [] else eT e.2.2.1)++(hasB e.1).data.toList.flatMap (fldE e)))
structure ER (e:E):Prop where
 time:I64 e.2.1
 id:U64 e.2.2.2.2.1
 vid:U64 e.2.2.2.2.2.1.1
 vmade:I64 (made e.2.2.2.2.2.1)
 vblob:U64 (blob e.2.2.2.2.2.1)
 vdig:(dig e.2.2.2.2.2.1).length=32
 vlock:I64 (lock e.2.2.2.2.2.1).2.1
 lock:I64 e.2.2.2.2.2.2.1.2.1
 pblob:U64 e.2.2.2.2.2.2.2.2.2.2.2.1.2.2.1
 pdig:e.2.2.2.2.2.2.2.2.2.2.2.1.2.2.2.1.length=32
theorem yeZ {α R:Type}{l:List α}(d:α)(g:α→List Int)(C:Nat)(J:Nat→Int→List Int→Option R)(fin:List Int→Option R)
  (hs:∀ m (k:Nat) L,k<l.length→L.length+(g (l.getD k d)).length≤C→J (m+1) (k:Int) L=J m ((k+1:Nat):Int) (L++g (l.getD k d)))
  (he:∀ m L,L.length≤C→J (m+1) ((l.length:Nat):Int) L=fin L) :
  ∀ (m k:Nat) (L:List Int),k≤l.length→l.length-k<m→L.length+((l.drop k).flatMap g).length≤C→J m (k:Int) L=fin (L++(l.drop k).flatMap g)
 | 0,k,L,_,h,_=>by omega
 | m+1,k,L,hk,h,hC=>by
  by_cases hlt:k<l.length
  ·have hd:l.drop k=l.getD k d::l.drop (k+1):=by
    rw[List.drop_eq_getElem_cons hlt,List.getD_eq_getElem?_getD,List.getElem?_eq_getElem hlt];rfl
   rw[hd,List.flatMap_cons]at hC ⊢
   rw[List.length_append]at hC
   rw[hs m k L hlt (by omega),yeZ d g C J fin hs he m (k+1) _ (by omega) (by omega) (by rw[List.length_append];omega),List.append_assoc]
  ·have:k=l.length:=by omega
   subst this
   rw[List.drop_length,List.flatMap_nil,List.append_nil]
   rw[List.drop_length,List.flatMap_nil,List.length_nil]at hC
   exact he m L (by omega)
theorem wput {n:Nat}(w:List Int)(u:Unit)(b:List Int)(h:w.length+b.length≤70368744177664):ybi.f n (w,u) b=some ((w++b,()),()):=by
 rw[ybi.e0,yap,yaq,yar (by dsimp only;omega)]
theorem wNum {n:Nat}(hn:300≤n)(w:List Int)(u:Unit){x:Int}(hx:U64 x)(h:w.length+(eN x).length≤70368744177664):yao.f n (w,u) x=some ((w++eN x,()),()):=by
 rw[yao.e0,bits_Pack hn hx]
 simp (disch:=first | assumption | exact yft _ | omega | (simp only[List.length_append,List.length_cons,List.length_nil]at *; omega)) only [yab,wput]
theorem wW {n:Nat}(hn:300≤n)(w:List Int)(u:Unit){x:Int}(h:w.length+(eW x).length≤70368744177664):yao.f n (w,u) (IntKind.u64.wrap x)=some ((w++eW x,()),()):=wNum hn w u (yft _) h
theorem wInt {n:Nat}(hn:300≤n)(w:List Int)(u:Unit){x:Int}(hx:I64 x)(h:w.length+(eI x).length≤70368744177664):ybL.f n (w,u) x=some ((w++eI x,()),()):=by
 rw[ybL.e0,bits_Zig n hx,yab]
 try dsimp only
 rw[wNum hn w () (zig_U64 hx) h,yab];rfl
theorem wFlag {n:Nat}(w:List Int)(u:Unit){b:Bool}(h:w.length+(eF b).length≤70368744177664):yaV.f n (w,u) b=some ((w++eF b,()),()):=by
 rw[yaV.e0]
 unfold eF at h
 rw[List.length_singleton]at h
 cases b
 ·simp (disch:=first | assumption | exact yft _ | omega | (simp only[List.length_append,List.length_cons,List.length_nil]at *; omega)) only [yaj,wput,yab];rfl
 ·simp (disch:=first | assumption | exact yft _ | omega | (simp only[List.length_append,List.length_cons,List.length_nil]at *; omega)) only [yaq,wput,yab];rfl
theorem wText {n:Nat}(hn:300≤n)(w:List Int)(u:Unit){s:ByteArray}(h:w.length+(eT s).length≤70368744177664):yay.f n (w,u) s=some ((w++eT s,()),()):=by
 rw[yay.e0]
 unfold eT at h ⊢
 rw[List.length_append]at h
 try dsimp only
 rw[wW hn w () (by omega),yab]
 try dsimp only
 rw[wput _ _ _ (by rw[List.length_append];omega),yab,List.append_assoc]
theorem wDig {n:Nat}(w:List Int)(u:Unit){d:List Int}(h:w.length+d.length≤70368744177664):yc3.f n (w,u) d=some ((w++d,()),()):=by
 rw[yc3.e0]
 simp (disch:=first | assumption | exact yft _ | omega | (simp only[List.length_append,List.length_cons,List.length_nil]at *; omega)) only [yab,wput]
theorem wLock {n:Nat}(hn:300≤n)(w:List Int)(u:Unit){l:yaZ}(hl:I64 l.2.1)(h:w.length+(eLock l).length≤70368744177664):ybJ.f n (w,u) l=some ((w++eLock l,()),()):=by
 rw[ybJ.e0]
 unfold eLock at h ⊢
 simp only[List.length_append]at h
 try dsimp only
 rw[wW hn w () (by omega),yab]
 try dsimp only
 rw[wInt hn _ () hl (by rw[List.length_append];omega),yab]
 try dsimp only
 rw[wFlag _ () (by first | omega | (simp only[List.length_append];omega)),yab]
 simp only[List.append_assoc]
theorem wTags {n:Nat}(hn:300≤n)(w:List Int)(u:Unit){l:List yaz}(hl:l.length<n)(hn2:n≤536870912)(h:w.length+(eTags l).length≤70368744177664):ybc.f n (w,u) l=some ((w++eTags l,()),()):=by
 rw[ybc.e0]
 unfold eTags at h ⊢
 simp only[List.length_append]at h
 try dsimp only
 rw[wW hn w () (by omega),yab]
 try dsimp only
 have:=yeZ (l:=l) (Va.dflt yaw) eTag 70368744177664 (λm k L=>ybc.J1 n m (l,((l.length:Nat):Int),k,((),()),(L,()),())) (λL=>some ((L,()),()))
  (λm k L hk hL=>by
   unfold eTag at hL ⊢
   simp only[List.length_append]at hL
   try dsimp only
   rw[ybc.e1,yap,decide_eq_true (by omega),yaq,yar ⟨by omega,by omega⟩,Int.toNat_natCast,ybp k (by omega)]
   try dsimp only
   rw[wText hn _ () (by omega),yab]
   try dsimp only
   rw[wText hn _ () (by rw[List.length_append];omega),yab]
   simp only[List.append_assoc])
  (λm L hL=>by
   try dsimp only
   rw[ybc.e1,yap,decide_eq_false (by omega),yaj]) n 0 (w++eW ((l.length:Nat):Int)) (by omega) (by omega) (by rw[List.length_append,List.drop_zero];omega)
 try dsimp only at this
 rw[show ((0:Nat):Int)=0 from rfl]at this
 rw[this,List.drop_zero,List.append_assoc]
theorem wDef {n:Nat}(hn:300≤n)(w:List Int)(u:Unit){d:yaL}(h:w.length+(eDef d).length≤70368744177664):ycG.f n (w,u) d=some ((w++eDef d,()),()):=by
 rw[ycG.e0]
 unfold eDef at h ⊢
 simp only[List.length_append]at h
 try dsimp only
 rw[wW hn _ () (by first | omega | (simp only[List.length_append];omega)),yab]
 try dsimp only
 rw[wW hn _ () (by first | omega | (simp only[List.length_append];omega)),yab]
 try dsimp only
 simp only[List.append_assoc]
theorem wRules {n:Nat}(hn:300≤n)(w:List Int)(u:Unit){l:List yau}(hl:RusB n l)(hn2:n≤536870912)(h:w.length+(eRules l).length≤70368744177664):yb7.f n (w,u) l=some ((w++eRules l,()),()):=by
 have hlen:=hl.len
 rw[yb7.e0]
 unfold eRules at h ⊢
 simp only[List.length_append]at h
 try dsimp only
 rw[wW hn w () (by omega),yab]
 try dsimp only
 have:=yeZ (l:=l) (Va.dflt yaC) eRule 70368744177664 (λm k L=>yb7.J1 n m (l,((l.length:Nat):Int),k,((),()),(L,()),())) (λL=>some ((L,()),()))
  (λm k L hk hL=>by
   have hr:=hl.all _ (yc5 (d:=Va.dflt yaC) hk)
   unfold eRule at hL ⊢
   simp only[List.length_append]at hL
   try dsimp only
   rw[yb7.e1,yap,decide_eq_true (by omega),yaq,yar ⟨by omega,by omega⟩,Int.toNat_natCast,ybp k (by omega)]
   try dsimp only
   rw[wText hn _ () (by first | omega | (simp only[List.length_append];omega)),yab]
   try dsimp only
   rw[wTags hn _ () hr.tags.1 hn2 (by first | omega | (simp only[List.length_append];omega)),yab]
   try dsimp only
   rw[wW hn _ () (by first | omega | (simp only[List.length_append];omega)),yab]
   try dsimp only
   rw[wW hn _ () (by first | omega | (simp only[List.length_append];omega)),yab]
   try dsimp only
   rw[wFlag _ () (by first | omega | (simp only[List.length_append];omega)),yab]
   try dsimp only
   simp only[List.append_assoc])
  (λm L hL=>by
   try dsimp only
   rw[yb7.e1,yap,decide_eq_false (by omega),yaj]) n 0 (w++eW ((l.length:Nat):Int)) (by omega) (by omega) (by rw[List.length_append,List.drop_zero];omega)
 try dsimp only at this
 rw[show ((0:Nat):Int)=0 from rfl]at this
 rw[this,List.drop_zero,List.append_assoc]
theorem wGrants {n:Nat}(hn:300≤n)(w:List Int)(u:Unit){l:List yat}(hl:GrsB n l)(hn2:n≤536870912)(h:w.length+(eGrants l).length≤70368744177664):yb1.f n (w,u) l=some ((w++eGrants l,()),()):=by
 have hlen:=hl.len
 rw[yb1.e0]
 unfold eGrants at h ⊢
 simp only[List.length_append]at h
 try dsimp only
 rw[wW hn w () (by omega),yab]
 try dsimp only
 have:=yeZ (l:=l) (Va.dflt yaD) eGrant 70368744177664 (λm k L=>yb1.J1 n m (l,((l.length:Nat):Int),k,((),()),(L,()),())) (λL=>some ((L,()),()))
  (λm k L hk hL=>by
   have hr:=hl.all _ (yc5 (d:=Va.dflt yaD) hk)
   unfold eGrant at hL ⊢
   simp only[List.length_append]at hL
   try dsimp only
   rw[yb1.e1,yap,decide_eq_true (by omega),yaq,yar ⟨by omega,by omega⟩,Int.toNat_natCast,ybp k (by omega)]
   try dsimp only
   rw[wFlag _ () (by first | omega | (simp only[List.length_append];omega)),yab]
   try dsimp only
   rw[wText hn _ () (by first | omega | (simp only[List.length_append];omega)),yab]
   try dsimp only
   rw[wText hn _ () (by first | omega | (simp only[List.length_append];omega)),yab]
   try dsimp only
   rw[wText hn _ () (by first | omega | (simp only[List.length_append];omega)),yab]
   try dsimp only
   simp only[List.append_assoc])
  (λm L hL=>by
   try dsimp only
   rw[yb1.e1,yap,decide_eq_false (by omega),yaj]) n 0 (w++eW ((l.length:Nat):Int)) (by omega) (by omega) (by rw[List.length_append,List.drop_zero];omega)
 try dsimp only at this
 rw[show ((0:Nat):Int)=0 from rfl]at this
 rw[this,List.drop_zero,List.append_assoc]
theorem wVer {n:Nat}(hn:300≤n)(w:List Int)(u:Unit){v:Ver}(h1:U64 v.1)(h2:I64 (made v))(h3:U64 (blob v))(h4:I64 (lock v).2.1)(ht:(tags v).length<n)(hn2:n≤536870912)(h:w.length+(eVer v).length≤70368744177664):ybE.f n (w,u) v=some ((w++eVer v,()),()):=by
 rw[ybE.e0]
 unfold eVer at h ⊢
 simp only[List.length_append]at h
 try dsimp only
 rw[wNum hn _ () h1 (by omega),yab]
 try dsimp only
 rw[show v.2.1=mark v from rfl,wFlag _ () (by first | omega | (simp only[List.length_append];omega)),yab]
 try dsimp only
 rw[show v.2.2.2.2.2.1=made v from rfl,wInt hn _ () h2 (by first | omega | (simp only[List.length_append];omega)),yab]
 try dsimp only
 cases hm:mark v
 ·rw[hm]at h
  simp only[Bool.false_eq_true,if_false,List.length_append]at h ⊢
  rw[yaj,show v.2.2.1=vsize v from rfl,wW hn _ () (by first | omega | (simp only[List.length_append];omega)),yab]
  try dsimp only
  rw[show v.2.2.2.1=blob v from rfl,wNum hn _ () h3 (by first | omega | (simp only[List.length_append];omega)),yab]
  try dsimp only
  rw[show v.2.2.2.2.1=dig v from rfl,wDig _ () (by first | omega | (simp only[List.length_append];omega)),yab]
  try dsimp only
  rw[show v.2.2.2.2.2.2.1=lock v from rfl,wLock hn _ () h4 (by first | omega | (simp only[List.length_append];omega)),yab]
  try dsimp only
  rw[show v.2.2.2.2.2.2.2.1=tags v from rfl,wTags hn _ () ht hn2 (by first | omega | (simp only[List.length_append];omega)),yab]
  simp only[List.append_assoc]
 ·rw[yaq]
  simp only[if_true,List.append_nil,List.append_assoc]
end Go.Proofs.YtdlkpmohjhjmfaaGreatDoor
namespace Go.Proofs.YtdlkpmohjhjmfaaGreatDoor
open Go Go.Va Go.Proofs
theorem yah (l:List Int):(yaT l).size=l.length:=by
 rw[yfj];unfold yaT;simp
theorem ye5 (x:Int):(eW x).length≤10:=ydH _
theorem eI_len (x:Int):(eI x).length≤10:=ydH _
theorem eF_len (b:Bool):(eF b).length=1:=rfl
theorem ycV (s:ByteArray):(eT s).length≤s.size+10:=by
 unfold eT;rw[List.length_append,← size_of];have:=ye5 (s.size:Int);omega
theorem pNum {n:Nat}(hn:300≤n){x:Int}(hx:U64 x):ybz.f n x=some (yaT (eN x),()):=ref10_Num hn hx
theorem pW {n:Nat}(hn:300≤n)(x:Int):ybV.f n x=some (yaT (eW x),()):=by
 rw[ybV.e0,ref10_Num hn (yft _),yab];rfl
theorem pInt {n:Nat}(hn:300≤n){t:Int}(h:I64 t):yd8.f n t=some (yaT (eI t),()):=by
 rw[yd8.e0,ref01_Zig n h,yab,ref10_Num hn (zig_U64 h),yab];rfl
theorem pFlag {n:Nat}(b:Bool):ycc.f n b=some (yaT (eF b),()):=by
 rw[ycc.e0];cases b<;>rfl
theorem pText {n:Nat}(hn:300≤n){s:ByteArray}(h:(eT s).length≤70368744177664):ybd.f n s=some (yaT (eT s),()):=by
 rw[ybd.e0,ref10_Num hn (yft _),yab]
 unfold eT at h ⊢
 rw[List.length_append,← size_of]at h
 rw[yaE,bytesOf_ofBytes]
 try dsimp only
 rw[yah,yar (by unfold eW at h;omega)];rfl
theorem pTags {n:Nat}(hn:300≤n){l:List yaz}(hl:TsB n l)(hn2:n≤536870912)(h:(eTags l).length≤70368744177664):ybS.f n l=some (yaT (eTags l),()):=by
 have hlen:=hl.1
 rw[ybS.e0]
 unfold eTags at h ⊢
 simp only[List.length_append]at h
 rw[pW hn,yab]
 try dsimp only
 have:=yeZ (l:=l) (Va.dflt yaw) eTag 70368744177664 (λm k L=>ybS.J1 n m (l,yaT L,k,())) (λL=>some (yaT L,()))
  (λm k L hk hL=>by
   have hr:=hl.2 _ (yc5 (d:=Va.dflt yaw) hk)
   have hg:(0≤(k:Int)∧(k:Int)<((l.length:Nat):Int)):=⟨by omega,by omega⟩
   unfold eTag at hL ⊢
   simp only[List.length_append]at hL
   try dsimp only
   rw[ybS.e1,yap,decide_eq_true (by omega),yaq]
   simp only[yar hg,Int.toNat_natCast,ybp k (show k<4611686018427387904 by omega)]
   rw[pText hn (by omega),yab]
   try dsimp only
   rw[pText hn (by omega),yab]
   try dsimp only
   rw[yah,yah,yar (by first | omega | (simp only[List.length_append];omega) | (simp only[List.length_append,yah];omega)),← yaE]
   rw[yah,yah,yar (by first | omega | (simp only[List.length_append];omega) | (simp only[List.length_append,yah];omega)),← yaE])
  (λm L hL=>by
   try dsimp only
   rw[ybS.e1,yap,decide_eq_false (by omega),yaj,ybS.e2]) n 0 (eW ((l.length:Nat):Int)) (by omega) (by omega) (by rw[List.drop_zero];omega)
 try dsimp only at this
 rw[show ((0:Nat):Int)=0 from rfl]at this
 rw[this,List.drop_zero]
theorem pRules {n:Nat}(hn:300≤n){l:List yau}(hl:RusB n l)(hn2:n≤536870912)(h:(eRules l).length≤70368744177664):ycK.f n l=some (yaT (eRules l),()):=by
 have hlen:=hl.len
 rw[ycK.e0]
 unfold eRules at h ⊢
 simp only[List.length_append]at h
 rw[pW hn,yab]
 try dsimp only
 have:=yeZ (l:=l) (Va.dflt yaC) eRule 70368744177664 (λm k L=>ycK.J1 n m (l,yaT L,k,())) (λL=>some (yaT L,()))
  (λm k L hk hL=>by
   have hr:=hl.all _ (yc5 (d:=Va.dflt yaC) hk)
   have hg:(0≤(k:Int)∧(k:Int)<((l.length:Nat):Int)):=⟨by omega,by omega⟩
   unfold eRule at hL ⊢
   simp only[List.length_append]at hL
   try dsimp only
   rw[ycK.e1,yap,decide_eq_true (by omega),yaq]
   simp only[yar hg,Int.toNat_natCast,ybp k (show k<4611686018427387904 by omega)]
   rw[pText hn (by omega),yab]
   try dsimp only
   rw[pTags hn hr.tags hn2 (by omega),yab]
   try dsimp only
   rw[yah,yah,yar (by first | omega | (simp only[List.length_append];omega) | (simp only[List.length_append,yah];omega)),← yaE]
   rw[pW hn,yab]
   try dsimp only
   rw[yah,yah,yar (by first | omega | (simp only[List.length_append];omega) | (simp only[List.length_append,yah];omega)),← yaE]
   rw[pW hn,yab]
   try dsimp only
   rw[yah,yah,yar (by first | omega | (simp only[List.length_append];omega) | (simp only[List.length_append,yah];omega)),← yaE]
   rw[pFlag,yab]
   try dsimp only
   rw[yah,yah,yar (by first | omega | (simp only[List.length_append];omega) | (simp only[List.length_append,yah];omega)),← yaE]
   rw[yah,yah,yar (by first | omega | (simp only[List.length_append];omega) | (simp only[List.length_append,yah];omega)),← yaE]
   simp only[List.append_assoc])
  (λm L hL=>by
   try dsimp only
   rw[ycK.e1,yap,decide_eq_false (by omega),yaj,ycK.e2]) n 0 (eW ((l.length:Nat):Int)) (by omega) (by omega) (by rw[List.drop_zero];omega)
 try dsimp only at this
 rw[show ((0:Nat):Int)=0 from rfl]at this
 rw[this,List.drop_zero]
theorem pGrants {n:Nat}(hn:300≤n){l:List yat}(hl:GrsB n l)(hn2:n≤536870912)(h:(eGrants l).length≤70368744177664):ycw.f n l=some (yaT (eGrants l),()):=by
 have hlen:=hl.len
 rw[ycw.e0]
 unfold eGrants at h ⊢
 simp only[List.length_append]at h
 rw[pW hn,yab]
 try dsimp only
 have:=yeZ (l:=l) (Va.dflt yaD) eGrant 70368744177664 (λm k L=>ycw.J1 n m (l,yaT L,k,())) (λL=>some (yaT L,()))
  (λm k L hk hL=>by
   have hr:=hl.all _ (yc5 (d:=Va.dflt yaD) hk)
   have hg:(0≤(k:Int)∧(k:Int)<((l.length:Nat):Int)):=⟨by omega,by omega⟩
   unfold eGrant at hL ⊢
   simp only[List.length_append]at hL
   try dsimp only
   rw[ycw.e1,yap,decide_eq_true (by omega),yaq]
   simp only[yar hg,Int.toNat_natCast,ybp k (show k<4611686018427387904 by omega)]
   rw[pFlag,yab]
   try dsimp only
   rw[pText hn (by omega),yab]
   try dsimp only
   rw[yah,yah,yar (by first | omega | (simp only[List.length_append];omega) | (simp only[List.length_append,yah];omega)),← yaE]
   rw[pText hn (by omega),yab]
   try dsimp only
   rw[yah,yah,yar (by first | omega | (simp only[List.length_append];omega) | (simp only[List.length_append,yah];omega)),← yaE]
   rw[pText hn (by omega),yab]
   try dsimp only
   rw[yah,yah,yar (by first | omega | (simp only[List.length_append];omega) | (simp only[List.length_append,yah];omega)),← yaE]
   rw[yah,yah,yar (by first | omega | (simp only[List.length_append];omega) | (simp only[List.length_append,yah];omega)),← yaE]
   simp only[List.append_assoc])
  (λm L hL=>by
   try dsimp only
   rw[ycw.e1,yap,decide_eq_false (by omega),yaj,ycw.e2]) n 0 (eW ((l.length:Nat):Int)) (by omega) (by omega) (by rw[List.drop_zero];omega)
 try dsimp only at this
 rw[show ((0:Nat):Int)=0 from rfl]at this
 rw[this,List.drop_zero]
theorem pLock {n:Nat}(hn:300≤n){l:yaZ}(hl:I64 l.2.1)(h:(eLock l).length≤70368744177664):ydk.f n l=some (yaT (eLock l),()):=by
 rw[ydk.e0]
 unfold eLock at h ⊢
 simp only[List.length_append]at h
 rw[pW hn,yab]
 try dsimp only
 rw[pInt hn hl,yab]
 try dsimp only
 rw[yah,yah,yar (by first | omega | (simp only[List.length_append];omega) | (simp only[List.length_append,yah];omega)),← yaE]
 rw[pFlag,yab]
 try dsimp only
 rw[yah,yah,yar (by first | omega | (simp only[List.length_append];omega) | (simp only[List.length_append,yah];omega)),← yaE]
 try simp only[List.append_assoc]
theorem pDef {n:Nat}(hn:300≤n){d:yaL}(h:(eDef d).length≤70368744177664):ydj.f n d=some (yaT (eDef d),()):=by
 rw[ydj.e0]
 unfold eDef at h ⊢
 simp only[List.length_append]at h
 rw[pW hn,yab]
 try dsimp only
 rw[pW hn,yab]
 try dsimp only
 rw[yah,yah,yar (by first | omega | (simp only[List.length_append];omega) | (simp only[List.length_append,yah];omega)),← yaE]
 try simp only[List.append_assoc]
end Go.Proofs.YtdlkpmohjhjmfaaGreatDoor
namespace Go.Proofs.YtdlkpmohjhjmfaaGreatDoor
open Go Go.Va Go.Proofs
theorem flat_len {α:Type}{f:α→List Int}{c:Nat}:∀ {l:List α},(∀ x∈l,(f x).length≤c)→(l.flatMap f).length≤l.length*c
 | [],_=>by simp
 | x::l,h=>by
  have h1:=h x (List.mem_cons_self ..)
  have h2:=flat_len (l:=l) (λy hy=>h y (List.mem_cons_of_mem _ hy))
  rw[List.flatMap_cons,List.length_append,List.length_cons,Nat.succ_mul];omega
theorem chk_all {α:Type}{p:α→Bool}{q:α→α→Bool}:∀ {o:Option α} {l:List α},chk p q o l=true→∀ x∈l,p x=true
 | _,[],_=>by intro x hx;exact nomatch hx
 | o,y::l,h=>by
  intro x hx
  have h2:p y=true∧∃ o',chk p q o' l=true:=by
   cases o with
   | none=>
    have h':(p y&&chk p q (some y) l)=true:=h
    rw[Bool.and_eq_true]at h'
    exact⟨h'.1,_,h'.2⟩
   | some a=>
    have h':(p y&&(q a y&&chk p q (some y) l))=true:=h
    rw[Bool.and_eq_true,Bool.and_eq_true]at h'
    exact⟨h'.1,_,h'.2.2⟩
  rcases List.mem_cons.1 hx with rfl | hx
  ·exact h2.1
  ·obtain⟨o',h3⟩:=h2.2
   exact chk_all h3 x hx
theorem tagsB_len {l:List yaz}(h:tagsB l=true):l.length≤8∧∀ t∈l,tagB t=true:=by
 unfold tagsB at h
 rw[Bool.and_eq_true,decide_eq_true_iff]at h
 exact⟨h.1,chk_all h.2⟩
theorem tagB_len {t:yaz}(h:tagB t=true):t.1.size≤64∧t.2.1.size≤64:=by
 unfold tagB at h
 simp only[Bool.and_eq_true,decide_eq_true_iff]at h
 exact⟨h.2.1,h.2.2.1⟩
theorem eTags_len {l:List yaz}(h:tagsB l=true):(eTags l).length≤1200:=by
 obtain⟨h1,h2⟩:=tagsB_len h
 have h3:=flat_len (l:=l) (f:=eTag) (c:=148) (λt ht=>by
  obtain⟨a,b⟩:=tagB_len (h2 t ht)
  have:=ycV t.1
  have:=ycV t.2.1
  unfold eTag;rw[List.length_append];omega)
 have:=ye5 ((l.length:Nat):Int)
 unfold eTags;rw[List.length_append];omega
theorem ydM {s:ByteArray}(h:keyB s=true):s.size≤200:=by
 unfold keyB at h
 simp only[Bool.and_eq_true,decide_eq_true_iff]at h;exact h.2.1
theorem globB_len {s:ByteArray}(h:globB s=true):s.size≤200:=by
 unfold globB at h
 simp only[Bool.and_eq_true,decide_eq_true_iff]at h;exact h.1
theorem bucketB_len {s:ByteArray}(h:ybB s=true):s.size≤63:=by
 unfold ybB at h
 simp only[Bool.and_eq_true,decide_eq_true_iff]at h;exact h.2.1
theorem eLock_len (l:yaZ):(eLock l).length≤21:=by
 have:=ye5 l.1
 have:=eI_len l.2.1
 unfold eLock eF;simp only[List.length_append,List.length_singleton];omega
theorem eVer_len {v:Ver}(h:verB v=true)(hd:(dig v).length=32):(eVer v).length≤1400:=by
 have:=ydH v.1
 have:=eI_len (made v)
 unfold eVer
 unfold verB at h
 cases hm:mark v
 ·rw[hm]at h
  simp only[Bool.and_eq_true,Bool.false_eq_true,if_false]at h
  have:=eTags_len h.2.2.2.2.2.2
  have:=ye5 (vsize v)
  have:=ydH (blob v)
  have:=eLock_len (lock v)
  unfold eF
  simp only[List.length_append,List.length_singleton,Bool.false_eq_true,if_false];omega
 ·unfold eF
  simp only[List.length_append,List.length_singleton,if_true,List.length_nil];omega
theorem ruleB_len {r:yau}(h:ruleB r=true):(eRule r).length≤1600:=by
 unfold ruleB at h
 simp only[Bool.and_eq_true,decide_eq_true_iff]at h
 have:=eTags_len h.2.2.1
 have:=ycV r.1
 have:=ye5 r.2.2.1
 have:=ye5 r.2.2.2.1
 unfold eRule eF;simp only[List.length_append,List.length_singleton];omega
theorem rulesB_len {l:List yau}(h:rulesB l=true):(eRules l).length≤13000:=by
 unfold rulesB at h
 simp only[Bool.and_eq_true,decide_eq_true_iff,List.all_eq_true]at h
 have h3:=flat_len (l:=l) (f:=eRule) (c:=1600) (λr hr=>ruleB_len (h.2 r hr))
 have:=ye5 ((l.length:Nat):Int)
 unfold eRules;rw[List.length_append];omega
theorem grantB_len {g:yat}(h:grantB g=true):(eGrant g).length≤640:=by
 unfold grantB at h
 simp only[Bool.and_eq_true]at h
 have:=globB_len h.1
 have:=globB_len h.2.1
 have:=globB_len h.2.2
 have:=ycV g.2.1
 have:=ycV g.2.2.1
 have:=ycV g.2.2.2.1
 unfold eGrant eF;simp only[List.length_append,List.length_singleton];omega
theorem grantsB_len {l:List yat}(h:yeY l=true):(eGrants l).length≤13000:=by
 unfold yeY at h
 simp only[Bool.and_eq_true,decide_eq_true_iff,List.all_eq_true]at h
 have h3:=flat_len (l:=l) (f:=eGrant) (c:=640) (λr hr=>grantB_len (h.2 r hr))
 have:=ye5 ((l.length:Nat):Int)
 unfold eGrants;rw[List.length_append];omega
structure Snd (e:E):Prop where
 kind:1≤e.1∧e.1≤13
 time:clampI e.2.1=e.2.1
 buck:(if e.1=1 then eqS e.2.2.1 ⟨#[]⟩ else ybB e.2.2.1)=true
 key:fld (hasB e.1) 107 (keyB e.2.2.2.1) (eqS e.2.2.2.1 ⟨#[]⟩)=true
 id:fld (hasB e.1) 105 (decide (e.2.2.2.2.1≥1)) (e.2.2.2.2.1==0)=true
 ver:fld (hasB e.1) 118 (verB e.2.2.2.2.2.1&&(e.2.2.2.2.2.1.2.2.2.2.2.1==e.2.1)) (sameV e.2.2.2.2.2.1 verZ)=true
 lock:fld (hasB e.1) 108 (lockB e.2.2.2.2.2.2.1) (eqD yaO e.2.2.2.2.2.2.1 (0,(0,(false,()))))=true
 tags:fld (hasB e.1) 116 (tagsB e.2.2.2.2.2.2.2.1) (((e.2.2.2.2.2.2.2.1.length:Nat):Int)==0)=true
 dflt:fld (hasB e.1) 100 (modeB e.2.2.2.2.2.2.2.2.1) (eqD yaA e.2.2.2.2.2.2.2.2.1 (0,(0,())))=true
 rules:fld (hasB e.1) 114 (rulesB e.2.2.2.2.2.2.2.2.2.1) (((e.2.2.2.2.2.2.2.2.2.1.length:Nat):Int)==0)=true
 grants:fld (hasB e.1) 103 (yeY e.2.2.2.2.2.2.2.2.2.2.1) (((e.2.2.2.2.2.2.2.2.2.2.1.length:Nat):Int)==0)=true
 part:fld (hasB e.1) 112 (partB e.2.2.2.2.2.2.2.2.2.2.2.1) (eqD T_api_Part e.2.2.2.2.2.2.2.2.2.2.2.1 partZ)=true
structure EsR (n:Nat)(l:List E):Prop where
 b:EsB n l
 r:∀ e∈l,ER e
theorem clone_byte {n:Nat}{s:List Int}(h:s.length≤70368744177664):yb5.f n s=some (s,()):=by
 rw[yb5.e0,yar (by rw[List.length_nil];omega)]
 by_cases h0:s.length=0
 ·rw[List.eq_nil_of_length_eq_zero h0];exact bothC_self _
 ·rw[show (s.length==0)=false by rw[beq_eq_false_iff_ne];exact h0];rfl
theorem clip_byte {n:Nat}(s:List Int):ydh.f n s=some (s,()):=by
 rw[ydh.e0,yar ⟨by omega,by omega⟩,yar ⟨by omega,by omega⟩,yar ⟨by omega,by omega,rfl⟩,Int.toNat_natCast,List.take_length,List.drop_zero]
theorem wOut {n:Nat}{w:List Int}(u:Unit)(h:w.length≤70368744177664):ycg.f n (w,u)=some (w,(w,u),()):=by
 rw[ycg.e0,yap,yaj]
 try dsimp only
 rw[clone_byte h,yab,clip_byte,yab]
end Go.Proofs.YtdlkpmohjhjmfaaGreatDoor
namespace Go.Proofs.YtdlkpmohjhjmfaaGreatDoor
open Go Go.Va Go.Proofs
def BY (l:List Int):Prop:=∀ x∈l,0≤x∧x≤255
structure Rd (n:Nat){α:Type}(F:yam→Option (α×yam×Unit))(enc:α→List Int)(ok:α→Prop)(bd:α→Prop):Prop where
 any:∀ b e,BB n b→∃ x b' e',F (b,e,())=some (x,(b',e',()),())∧BB n b'∧bd x
 enc:∀ x rest,ok x→BB n (enc x++rest)→F (enc x++rest,0,())=some (x,(rest,0,()),())
theorem ybM {n:Nat}{a b:List Int}(h:BB n (a++b)):BB n b:=⟨by have:=h.len;rw[List.length_append]at this;omega,λx hx=>h.byte x (List.mem_append.2 (.inr hx))⟩
theorem rfail {n:Nat}(b:List Int)(e e':Int)(u:Unit):ya8.f n (b,e,u) e'=some ((b,(if e=0 then e' else e),()),()):=by
 rw[ya8.e0,yap]
 by_cases h:e=0
 ·rw[if_pos h,show ((b,e,u).2.1==0)=true from beq_iff_eq.2 h,yaq]
 ·rw[if_neg h,show ((b,e,u).2.1==0)=false from beq_eq_false_iff_ne.2 h,yaj]
def tk (k:Nat)(b:List Int)(e:Int):List Int×yam:=if e=0 then if k≤b.length then (b.take k,(b.drop k,0,())) else ([],(b,3,())) else ([],(b,e,()))
theorem rtake {n:Nat}(b:List Int)(e:Int)(u:Unit)(k:Nat):ybr.f n (b,e,u) (k:Int)=some ((tk k b e).1,(tk k b e).2,()):=by
 rw[ybr.e0]
 simp only[yap,ybr.e1,rfail,yab]
 unfold tk
 by_cases h:e=0
 ·subst h
  rw[if_pos rfl,show ((0:Int)==0)=true from rfl,yaq]
  by_cases hk:k≤b.length
  ·rw[decide_eq_false (by omega),if_pos hk,yaj,show ((0:Int) != 0)=false from rfl,yaj,yar ⟨by omega,by omega⟩,yar ⟨by omega,by omega⟩,yar ⟨by omega,by omega⟩,yar ⟨by omega,by omega⟩]
   simp
  ·rw[decide_eq_true (by omega),if_neg hk,yaq];rfl
 ·rw[show (e==0)=false from beq_eq_false_iff_ne.2 h,yaj,show (e != 0)=true by rw[bne,beq_eq_false_iff_ne.2 h];rfl,yaq]
  simp only[if_neg h]
theorem tk_any {n:Nat}{b:List Int}(e:Int)(hb:BB n b)(k:Nat):∃ (x b':List Int) (e':Int),tk k b e=(x,(b',e',()))∧BB n b'∧BB n x∧(e'=0→x.length=k)∧(x.length=0∨x.length=k):=by
 have hlen:=hb.len
 unfold tk
 by_cases h:e=0
 ·rw[if_pos h]
  by_cases hk:k≤b.length
  ·rw[if_pos hk]
   exact⟨_,_,_,rfl,BB_drop hb k,BB_take hb k,λ_=>by rw[List.length_take];omega,.inr (by rw[List.length_take];omega)⟩
  ·rw[if_neg hk]
   exact⟨_,_,_,rfl,hb,BB_nil (by omega),by intro h;exact absurd h (by decide),.inl rfl⟩
 ·rw[if_neg h]
  exact⟨_,_,_,rfl,hb,BB_nil (by omega),λh'=>absurd h' h,.inl rfl⟩
theorem tk_enc (a rest:List Int)(k:Nat)(h:k=a.length):tk k (a++rest) 0=(a,(rest,0,())):=by
 subst h
 unfold tk
 rw[if_pos rfl,if_pos (by rw[List.length_append];omega),List.take_left' rfl,List.drop_left' rfl]
theorem rNum {n:Nat}(hn:300≤n)(hn2:n≤536870912):Rd n (α:=Int) (ya1.f n) eN U64 U64 where
 any b e hb:=by
  obtain⟨w,u,e2,h1,h2,h3,h4,h5,h6⟩:=bits_Unpack_any hn2 hn hb
  rw[ya1.e0]
  simp only[yap,yaj,ya1.e1,h1,yab,rfail]
  by_cases h:e=0
  ·subst h
   rw[show ((0:Int) != 0)=false from rfl,yaj]
   by_cases he:e2=0
   ·subst he
    obtain⟨y,rfl⟩:=Int.eq_ofNat_of_zero_le h3
    rw[show ((0:Int) != 0)=false from rfl,yaj,rtake,yab]
    obtain⟨x,b',e',h7,h8,_,_,_⟩:=tk_any (n:=n) 0 hb y
    try dsimp only
    rw[h7]
    exact⟨_,_,_,rfl,h8,h2⟩
   ·rw[show (e2 != 0)=true by rw[bne,beq_eq_false_iff_ne.2 he];rfl,yaq]
    exact⟨_,_,_,rfl,hb,⟨by omega,by omega⟩⟩
  ·rw[show (e != 0)=true by rw[bne,beq_eq_false_iff_ne.2 h];rfl,yaq]
   exact⟨_,_,_,rfl,hb,⟨by omega,by omega⟩⟩
 enc x rest hx hb:=by
  rw[ya1.e0]
  simp only[yap,yaj,ya1.e1,bits_Unpack_eN hn2 hn hx hb,yab,show ((0:Int) != 0)=false from rfl,rtake,tk_enc _ _ _ rfl]
theorem rInt {n:Nat}(hn:300≤n)(hn2:n≤536870912):Rd n (α:=Int) (ycf.f n) eI I64 I64 where
 any b e hb:=by
  obtain⟨x,b',e',h1,h2,h3⟩:=(rNum hn hn2).any b e hb
  rw[ycf.e0,h1,yab,bits_Zag n h3,yab]
  exact⟨_,_,_,rfl,h2,zag_I64 h3⟩
 enc x rest hx hb:=by
  unfold eI at hb ⊢
  rw[ycf.e0,(rNum hn hn2).enc _ rest (zig_U64 hx) hb,yab,bits_Zag n (zig_U64 hx),yab,zag_zig]
theorem eW_nat {n:Nat}(hn:300≤n)(hn2:n≤536870912){x:Int}(h:0≤x∧x<9223372036854775808):eW x=eN x:=by unfold eW;rw[ydD (by omega)]
theorem rCount {n:Nat}(hn:300≤n)(hn2:n≤536870912){most:Int}(hm:0≤most∧most<9223372036854775808):Rd n (α:=Int) (λr=>yaR.f n r most) eW (λx=>0≤x∧x≤most) (λx=>0≤x∧x≤most) where
 any b e hb:=by
  obtain⟨x,b',e',h1,h2,h3⟩:=(rNum hn hn2).any b e hb
  obtain⟨h4,h5⟩:=h3
  try dsimp only
  rw[yaR.e0,h1,yab]
  simp only[yap,yaj,yaR.e1,yaR.e2,yaR.e3,rfail,yab]
  by_cases h:e'=0
  ·subst h
   rw[show ((0:Int) != 0)=false from rfl,yaj,decide_eq_false (by omega),yaj,ydD (x:=most) (by omega)]
   by_cases hx:x>most
   ·rw[decide_eq_true hx,yaq]
    exact⟨_,_,_,rfl,h2,by omega,by omega⟩
   ·rw[decide_eq_false hx,yaj,yb6 (by omega)]
    exact⟨_,_,_,rfl,h2,by omega,by omega⟩
  ·rw[show (e' != 0)=true by rw[bne,beq_eq_false_iff_ne.2 h];rfl,yaq]
   exact⟨_,_,_,rfl,h2,by omega,by omega⟩
 enc x rest hx hb:=by
  rw[eW_nat hn hn2 (by omega)]at hb ⊢
  try dsimp only
  rw[yaR.e0,(rNum hn hn2).enc _ rest ⟨by omega,by omega⟩ hb,yab]
  simp only[yap,yaj,yaR.e1,yaR.e2,yaR.e3,rfail,yab]
  rw[show ((0:Int) != 0)=false from rfl,yaj,decide_eq_false (by omega),yaj,ydD (x:=most) (by omega),decide_eq_false (by omega),yaj,yb6 (by omega)]
theorem rSmall {n:Nat}(hn:300≤n)(hn2:n≤536870912):Rd n (α:=Int) (yaQ.f n) eW (λx=>0≤x∧x≤1099511627776) (λx=>0≤x∧x≤1099511627776) where
 any b e hb:=by
  obtain⟨x,b',e',h1,h2,h3⟩:=(rCount hn hn2 (most:=1099511627776) (by omega)).any b e hb
  rw[yaQ.e0,h1,yab]
  exact⟨_,_,_,rfl,h2,h3⟩
 enc x rest hx hb:=by
  rw[yaQ.e0,(rCount hn hn2 (most:=1099511627776) (by omega)).enc x rest hx hb,yab]
theorem rText {n:Nat}(hn:300≤n)(hn2:n≤536870912):Rd n (α:=ByteArray) (yax.f n) eT (λs=>s.size≤16384) (λs=>s.size<n) where
 any b e hb:=by
  obtain⟨x,b',e',h1,h2,h3,h4⟩:=(rCount hn hn2 (most:=16384) (by omega)).any b e hb
  obtain⟨y,rfl⟩:=Int.eq_ofNat_of_zero_le h3
  rw[yax.e0,h1,yab,yap,yaj]
  try dsimp only
  rw[rtake,yab]
  obtain⟨x,b2,e2,h7,h8,h9,_,_⟩:=tk_any (n:=n) e' h2 y
  try dsimp only
  rw[h7]
  exact⟨_,_,_,rfl,h8,by rw[yah];exact h9.len⟩
 enc s rest hs hb:=by
  unfold eT at hb ⊢
  rw[List.append_assoc]at hb ⊢
  rw[yax.e0,(rCount hn hn2 (most:=16384) (by omega)).enc _ _ ⟨by omega,by omega⟩ hb,yab,yap,yaj]
  try dsimp only
  rw[rtake,yab,tk_enc _ _ _ (size_of s),bytesOf_ofBytes]
theorem rFlag {n:Nat}(hn:300≤n)(hn2:n≤536870912):Rd n (α:=Bool) (ya2.f n) eF (λ_=>True) (λ_=>True) where
 any b e hb:=by
  rw[ya2.e0,yap,yaj,show (1:Int)=((1:Nat):Int) from rfl,rtake,yab]
  obtain⟨x,b2,e2,h7,h8,h9,h10,_⟩:=tk_any (n:=n) e hb 1
  try dsimp only
  rw[h7]
  simp only[yap,rfail,yab,ya2.e1]
  by_cases h:e2=0
  ·have hx:=h10 h
   subst h
   rw[show ((0:Int)==0)=true from rfl,yaq,yar ⟨by omega,by omega⟩,yew (by decide)]
   cases (shrI .u8 (x.getD 0 0) ((1:Nat):Int) != 0)
   ·rw[yaj,yaq,yar ⟨by omega,by omega⟩]
    exact⟨_,_,_,rfl,h8,trivial⟩
   ·rw[yaq]
    exact⟨_,_,_,rfl,h8,trivial⟩
  ·rw[show (e2==0)=false from beq_eq_false_iff_ne.2 h,yaj,yaj]
   exact⟨_,_,_,rfl,h8,trivial⟩
 enc x rest _ hb:=by
  rw[ya2.e0,yap,yaj,show (1:Int)=((1:Nat):Int) from rfl,rtake,yab,tk_enc (eF x) rest 1 rfl]
  simp only[yap,rfail,yab,ya2.e1]
  have hg:(0≤(0:Int)∧(0:Int)<(((eF x).length:Nat):Int)):=by rw[eF_len];omega
  rw[show ((0:Int)==0)=true from rfl,yaq,yar hg,yew (by decide),show (shrI .u8 ((eF x).getD 0 0) ((1:Nat):Int) != 0)=false by cases x<;>decide,yaj,yaq,yar hg,
   show ((eF x).getD 0 0==1)=x by cases x<;>rfl]
theorem rd_any {n:Nat}{α R:Type}{F:yam→Option (α×yam×Unit)}{en:α→List Int}{ok bd:α→Prop}(hF:Rd n F en ok bd)(c:Nat)
  (J:Nat→List α→Int→yam→Option R) (fin:List α→yam→Option R)
  (hs:∀ m out (k:Nat) r x r',k<c→out.length=k→F r=some (x,r',())→J (m+1) out (k:Int) r=J m (out++[x]) ((k+1:Nat):Int) r')
  (he:∀ m out r,out.length=c→J (m+1) out (c:Int) r=fin out r) :
  ∀ (m k:Nat) out b e,k≤c→c-k<m→out.length=k→(∀ x∈out,bd x)→BB n b →
   ∃ out' b' e',J m out (k:Int) (b,e,())=fin out' (b',e',())∧BB n b'∧out'.length=c∧∀ x∈out',bd x
 | 0,k,out,b,e,_,h,_,_,_=>by omega
 | m+1,k,out,b,e,hk,h,ho,hbd,hb=>by
  by_cases hlt:k<c
  ·obtain⟨x,b',e',h1,h2,h3⟩:=hF.any b e hb
   rw[hs m out k _ x _ hlt ho h1]
   exact rd_any hF c J fin hs he m (k+1) (out++[x]) b' e' (by omega) (by omega) (by simp;omega) (by
    intro y hy
    rcases List.mem_append.1 hy with hy | hy
    ·exact hbd y hy
    ·rw[List.mem_singleton]at hy;rw[hy];exact h3) h2
  ·have:k=c:=by omega
   subst this
   rw[he m out _ ho]
   exact⟨out,b,e,rfl,hb,ho,hbd⟩
theorem rd_enc {n:Nat}{α R:Type}{F:yam→Option (α×yam×Unit)}{en:α→List Int}{ok bd:α→Prop}(hF:Rd n F en ok bd)(c:Nat)
  (J:Nat→List α→Int→yam→Option R) (fin:List α→yam→Option R)
  (hs:∀ m out (k:Nat) r x r',k<c→out.length=k→F r=some (x,r',())→J (m+1) out (k:Int) r=J m (out++[x]) ((k+1:Nat):Int) r')
  (he:∀ m out r,out.length=c→J (m+1) out (c:Int) r=fin out r) (rest:List Int) :
  ∀ (m:Nat) (l:List α) (k:Nat) out,k+l.length=c→l.length<m→out.length=k→(∀ x∈l,ok x)→BB n (l.flatMap en++rest) →
   J m out (k:Int) (l.flatMap en++rest,0,())=fin (out++l) (rest,0,())
 | 0,l,k,out,_,h,_,_,_=>by omega
 | m+1,[],k,out,hk,h,ho,hok,hb=>by
  rw[List.length_nil]at hk
  have:k=c:=by omega
  subst this
  rw[he m out _ ho,List.append_nil];rfl
 | m+1,x::l,k,out,hk,h,ho,hok,hb=>by
  rw[List.length_cons]at hk h
  rw[List.flatMap_cons,List.append_assoc]at hb ⊢
  rw[hs m out k _ x (l.flatMap en++rest,0,()) (by omega) ho (hF.enc x _ (hok x (List.mem_cons_self ..)) hb),
   rd_enc hF c J fin hs he rest m l (k+1) (out++[x]) (by omega) (by omega) (by simp;omega) (λy hy=>hok y (List.mem_cons_of_mem _ hy)) (ybM hb),List.append_assoc];rfl
end Go.Proofs.YtdlkpmohjhjmfaaGreatDoor
namespace Go.Proofs.YtdlkpmohjhjmfaaGreatDoor
open Go Go.Va Go.Proofs
theorem yaS {α β γ:Type}(a:Option α)(f:α→Option β)(g:β→Option γ):bnd (bnd a f) g=bnd a λx=>bnd (f x) g:=by cases a<;>rfl
def Small (x:Int):Prop:=0≤x∧x≤1099511627776
def okT (s:ByteArray):Prop:=s.size≤16384
def okTag (t:yaz):Prop:=okT t.1∧okT t.2.1
def okTags (l:List yaz):Prop:=l.length≤8∧∀ t∈l,okTag t
def okLock (l:yaZ):Prop:=Small l.1∧I64 l.2.1
def bdLock (l:yaZ):Prop:=I64 l.2.1
structure okVer (v:Ver):Prop where
 id:U64 v.1
 md:I64 (made v)
 yes:mark v=true→v=(v.1,(true,(0,(0,((List.replicate 32 0),(made v,((0,(0,(false,()))),([],()))))))))
 no:mark v=false→Small (vsize v)∧U64 (blob v)∧(dig v).length=32∧okLock (lock v)∧okTags (tags v)
structure bdVer (n:Nat)(v:Ver):Prop where
 b:VB n v
 id:U64 v.1
 md:I64 (made v)
 bl:U64 (blob v)
 lk:bdLock (lock v)
 dy:BY (dig v)
def okDef (d:yaL):Prop:=Small d.1∧Small d.2.1
def okRule (r:yau):Prop:=okT r.1∧okTags r.2.1∧Small r.2.2.1∧Small r.2.2.2.1
def okRules (l:List yau):Prop:=l.length≤8∧∀ t∈l,okRule t
def okGrant (g:yat):Prop:=okT g.2.1∧okT g.2.2.1∧okT g.2.2.2.1
def okGrants (l:List yat):Prop:=l.length≤8∧∀ t∈l,okGrant t
theorem BY_zero (k:Nat):BY (List.replicate k 0):=by intro x hx;have:=List.eq_of_mem_replicate hx;omega
theorem rLock {n:Nat}(hn:300≤n)(hn2:n≤536870912):Rd n (α:=yaZ) (ybH.f n) eLock okLock bdLock where
 any b0 e0 hb0:=by
  rw[ybH.e0]
  obtain⟨x1,b1,e1,h1,hb1,d1⟩:=(rSmall hn hn2).any b0 e0 hb0
  rw[h1,yab]
  try dsimp only
  obtain⟨x2,b2,e2,h2,hb2,d2⟩:=(rInt hn hn2).any b1 e1 hb1
  rw[h2,yab]
  try dsimp only
  obtain⟨x3,b3,e3,h3,hb3,d3⟩:=(rFlag hn hn2).any b2 e2 hb2
  rw[h3,yab]
  try dsimp only
  exact⟨_,_,_,rfl,hb3,d2⟩
 enc x rest hx hb:=by
  unfold eLock at hb ⊢
  try simp only[List.append_assoc]at hb ⊢
  rw[ybH.e0]
  rw[(rSmall hn hn2).enc _ _ hx.1 hb,yab]
  try dsimp only
  replace hb:=ybM hb
  rw[(rInt hn hn2).enc _ _ hx.2 hb,yab]
  try dsimp only
  replace hb:=ybM hb
  rw[(rFlag hn hn2).enc _ _ trivial hb,yab]
  try dsimp only
theorem rDef {n:Nat}(hn:300≤n)(hn2:n≤536870912):Rd n (α:=yaL) (ycp.f n) eDef okDef (λ_=>True) where
 any b0 e0 hb0:=by
  rw[ycp.e0]
  obtain⟨x1,b1,e1,h1,hb1,d1⟩:=(rSmall hn hn2).any b0 e0 hb0
  rw[h1,yab]
  try dsimp only
  obtain⟨x2,b2,e2,h2,hb2,d2⟩:=(rSmall hn hn2).any b1 e1 hb1
  rw[h2,yab]
  try dsimp only
  exact⟨_,_,_,rfl,hb2,trivial⟩
 enc x rest hx hb:=by
  unfold eDef at hb ⊢
  try simp only[List.append_assoc]at hb ⊢
  rw[ycp.e0]
  rw[(rSmall hn hn2).enc _ _ hx.1 hb,yab]
  try dsimp only
  replace hb:=ybM hb
  rw[(rSmall hn hn2).enc _ _ hx.2 hb,yab]
  try dsimp only
noncomputable def tagRd (n:Nat)(r:yam):Option (yaz×yam×Unit):=bnd (yax.f n r) λu1=>bnd (yax.f n u1.2.1) λu2=>some ((u1.1,(u2.1,())),u2.2.1,())
noncomputable def ruleRd (n:Nat)(r:yam):Option (yau×yam×Unit):=bnd (yax.f n r) λu1=>bnd (yaX.f n u1.2.1) λu2=>bnd (yaQ.f n u2.2.1) λu3=>bnd (yaQ.f n u3.2.1) λu4=>bnd (ya2.f n u4.2.1) λu5=>some ((u1.1,(u2.1,(u3.1,(u4.1,(u5.1,()))))),u5.2.1,())
noncomputable def grantRd (n:Nat)(r:yam):Option (yat×yam×Unit):=bnd (ya2.f n r) λu1=>bnd (yax.f n u1.2.1) λu2=>bnd (yax.f n u2.2.1) λu3=>bnd (yax.f n u3.2.1) λu4=>some ((u1.1,(u2.1,(u3.1,(u4.1,())))),u4.2.1,())
theorem tagR {n:Nat}(hn:300≤n)(hn2:n≤536870912):Rd n (α:=yaz) (tagRd n) eTag okTag (TB n) where
 any b0 e0 hb0:=by
  unfold tagRd
  obtain⟨x1,b1,e1,h1,hb1,d1⟩:=(rText hn hn2).any b0 e0 hb0
  rw[h1,yab]
  try dsimp only
  obtain⟨x2,b2,e2,h2,hb2,d2⟩:=(rText hn hn2).any b1 e1 hb1
  rw[h2,yab]
  try dsimp only
  exact⟨_,_,_,rfl,hb2,d1,d2⟩
 enc x rest hx hb:=by
  unfold eTag at hb ⊢
  try simp only[List.append_assoc]at hb ⊢
  unfold tagRd
  rw[(rText hn hn2).enc _ _ hx.1 hb,yab]
  try dsimp only
  replace hb:=ybM hb
  rw[(rText hn hn2).enc _ _ hx.2 hb,yab]
  try dsimp only
theorem rTags {n:Nat}(hn:300≤n)(hn2:n≤536870912):Rd n (α:=List yaz) (yaX.f n) eTags okTags (TsB n) where
 any b e hb:=by
  obtain⟨c,b1,e1,h1,hb1,h2,h3⟩:=(rCount hn hn2 (most:=8) (by omega)).any b e hb
  obtain⟨y,rfl⟩:=Int.eq_ofNat_of_zero_le h2
  rw[yaX.e0,h1,yab]
  try dsimp only
  obtain⟨out',b',e',h4,h5,h6,h7⟩:=rd_any (tagR hn hn2) y (λm out k r=>yaX.J1 n m (out,(y:Int),k,((),()),r,())) (λout r=>some (out,r,())) (λm out k r x r' hk ho hF=>by
   try dsimp only
   rw[yaX.e1,yap,decide_eq_true (by omega),yaq]
   have:∀ (K:yaz→yam→Option (yaX.R)),bnd (tagRd n r) (λu=>K u.1 u.2.1)=K x r':=by intro K;rw[hF,yab]
   have h2:=this (λx r'=>gIf ((out.length+1)*32≤70368744177664) (yaX.J1 n m (out++[x],(y:Int),IntKind.i64.wrap ((k:Int)+1),((),()),r',())))
   rw[yar (by omega),ybp k (by omega)]at h2
   unfold tagRd at h2
   simp only[yaS,yab]at h2
   rw[ybp k (by omega)]
   exact h2)
   (λm out r ho=>by
   try dsimp only
   rw[yaX.e1,yap,decide_eq_false (by omega),yaj,yaX.e2]) n 0 [] b1 e1 (by omega) (by omega) rfl (by intro x hx;exact nomatch hx) hb1
  try dsimp only at h4
  rw[show ((0:Nat):Int)=0 from rfl]at h4
  rw[h4]
  exact⟨_,_,_,rfl,h5,by omega,h7⟩
 enc l rest hl hb:=by
  unfold eTags at hb ⊢
  rw[List.append_assoc]at hb ⊢
  have hlen:=hl.1
  rw[yaX.e0,(rCount hn hn2 (most:=8) (by omega)).enc _ _ ⟨by omega,by omega⟩ hb,yab]
  try dsimp only
  have h4:=rd_enc (tagR hn hn2) l.length (λm out k r=>yaX.J1 n m (out,((l.length:Nat):Int),k,((),()),r,())) (λout r=>some (out,r,())) (λm out k r x r' hk ho hF=>by
   try dsimp only
   rw[yaX.e1,yap,decide_eq_true (by omega),yaq]
   have:∀ (K:yaz→yam→Option (yaX.R)),bnd (tagRd n r) (λu=>K u.1 u.2.1)=K x r':=by intro K;rw[hF,yab]
   have h2:=this (λx r'=>gIf ((out.length+1)*32≤70368744177664) (yaX.J1 n m (out++[x],((l.length:Nat):Int),IntKind.i64.wrap ((k:Int)+1),((),()),r',())))
   rw[yar (by omega),ybp k (by omega)]at h2
   unfold tagRd at h2
   simp only[yaS,yab]at h2
   rw[ybp k (by omega)]
   exact h2)
   (λm out r ho=>by
   try dsimp only
   rw[yaX.e1,yap,decide_eq_false (by omega),yaj,yaX.e2]) rest n l 0 [] (by omega) (by omega) rfl hl.2 (ybM hb)
  try dsimp only at h4
  rw[show ((0:Nat):Int)=0 from rfl]at h4
  rw[h4,List.nil_append]
theorem ruleR {n:Nat}(hn:300≤n)(hn2:n≤536870912):Rd n (α:=yau) (ruleRd n) eRule okRule (RuB n) where
 any b0 e0 hb0:=by
  unfold ruleRd
  obtain⟨x1,b1,e1,h1,hb1,d1⟩:=(rText hn hn2).any b0 e0 hb0
  rw[h1,yab]
  try dsimp only
  obtain⟨x2,b2,e2,h2,hb2,d2⟩:=(rTags hn hn2).any b1 e1 hb1
  rw[h2,yab]
  try dsimp only
  obtain⟨x3,b3,e3,h3,hb3,d3⟩:=(rSmall hn hn2).any b2 e2 hb2
  rw[h3,yab]
  try dsimp only
  obtain⟨x4,b4,e4,h4,hb4,d4⟩:=(rSmall hn hn2).any b3 e3 hb3
  rw[h4,yab]
  try dsimp only
  obtain⟨x5,b5,e5,h5,hb5,d5⟩:=(rFlag hn hn2).any b4 e4 hb4
  rw[h5,yab]
  try dsimp only
  exact⟨_,_,_,rfl,hb5,d1,d2⟩
 enc x rest hx hb:=by
  unfold eRule at hb ⊢
  try simp only[List.append_assoc]at hb ⊢
  unfold ruleRd
  rw[(rText hn hn2).enc _ _ hx.1 hb,yab]
  try dsimp only
  replace hb:=ybM hb
  rw[(rTags hn hn2).enc _ _ hx.2.1 hb,yab]
  try dsimp only
  replace hb:=ybM hb
  rw[(rSmall hn hn2).enc _ _ hx.2.2.1 hb,yab]
  try dsimp only
  replace hb:=ybM hb
  rw[(rSmall hn hn2).enc _ _ hx.2.2.2 hb,yab]
  try dsimp only
  replace hb:=ybM hb
  rw[(rFlag hn hn2).enc _ _ trivial hb,yab]
  try dsimp only
theorem rRules {n:Nat}(hn:300≤n)(hn2:n≤536870912):Rd n (α:=List yau) (ya9.f n) eRules okRules (RusB n) where
 any b e hb:=by
  obtain⟨c,b1,e1,h1,hb1,h2,h3⟩:=(rCount hn hn2 (most:=8) (by omega)).any b e hb
  obtain⟨y,rfl⟩:=Int.eq_ofNat_of_zero_le h2
  rw[ya9.e0,h1,yab]
  try dsimp only
  obtain⟨out',b',e',h4,h5,h6,h7⟩:=rd_any (ruleR hn hn2) y (λm out k r=>ya9.J1 n m (out,(y:Int),k,((),()),r,())) (λout r=>some (out,r,())) (λm out k r x r' hk ho hF=>by
   try dsimp only
   rw[ya9.e1,yap,decide_eq_true (by omega),yaq]
   have:∀ (K:yau→yam→Option (ya9.R)),bnd (ruleRd n r) (λu=>K u.1 u.2.1)=K x r':=by intro K;rw[hF,yab]
   have h2:=this (λx r'=>gIf ((out.length+1)*64≤70368744177664) (ya9.J1 n m (out++[x],(y:Int),IntKind.i64.wrap ((k:Int)+1),((),()),r',())))
   rw[yar (by omega),ybp k (by omega)]at h2
   unfold ruleRd at h2
   simp only[yaS,yab]at h2
   rw[ybp k (by omega)]
   exact h2)
   (λm out r ho=>by
   try dsimp only
   rw[ya9.e1,yap,decide_eq_false (by omega),yaj,ya9.e2]) n 0 [] b1 e1 (by omega) (by omega) rfl (by intro x hx;exact nomatch hx) hb1
  try dsimp only at h4
  rw[show ((0:Nat):Int)=0 from rfl]at h4
  rw[h4]
  exact⟨_,_,_,rfl,h5,by omega,h7⟩
 enc l rest hl hb:=by
  unfold eRules at hb ⊢
  rw[List.append_assoc]at hb ⊢
  have hlen:=hl.1
  rw[ya9.e0,(rCount hn hn2 (most:=8) (by omega)).enc _ _ ⟨by omega,by omega⟩ hb,yab]
  try dsimp only
  have h4:=rd_enc (ruleR hn hn2) l.length (λm out k r=>ya9.J1 n m (out,((l.length:Nat):Int),k,((),()),r,())) (λout r=>some (out,r,())) (λm out k r x r' hk ho hF=>by
   try dsimp only
   rw[ya9.e1,yap,decide_eq_true (by omega),yaq]
   have:∀ (K:yau→yam→Option (ya9.R)),bnd (ruleRd n r) (λu=>K u.1 u.2.1)=K x r':=by intro K;rw[hF,yab]
   have h2:=this (λx r'=>gIf ((out.length+1)*64≤70368744177664) (ya9.J1 n m (out++[x],((l.length:Nat):Int),IntKind.i64.wrap ((k:Int)+1),((),()),r',())))
   rw[yar (by omega),ybp k (by omega)]at h2
   unfold ruleRd at h2
   simp only[yaS,yab]at h2
   rw[ybp k (by omega)]
   exact h2)
   (λm out r ho=>by
   try dsimp only
   rw[ya9.e1,yap,decide_eq_false (by omega),yaj,ya9.e2]) rest n l 0 [] (by omega) (by omega) rfl hl.2 (ybM hb)
  try dsimp only at h4
  rw[show ((0:Nat):Int)=0 from rfl]at h4
  rw[h4,List.nil_append]
theorem grantR {n:Nat}(hn:300≤n)(hn2:n≤536870912):Rd n (α:=yat) (grantRd n) eGrant okGrant (GrB n) where
 any b0 e0 hb0:=by
  unfold grantRd
  obtain⟨x1,b1,e1,h1,hb1,d1⟩:=(rFlag hn hn2).any b0 e0 hb0
  rw[h1,yab]
  try dsimp only
  obtain⟨x2,b2,e2,h2,hb2,d2⟩:=(rText hn hn2).any b1 e1 hb1
  rw[h2,yab]
  try dsimp only
  obtain⟨x3,b3,e3,h3,hb3,d3⟩:=(rText hn hn2).any b2 e2 hb2
  rw[h3,yab]
  try dsimp only
  obtain⟨x4,b4,e4,h4,hb4,d4⟩:=(rText hn hn2).any b3 e3 hb3
  rw[h4,yab]
  try dsimp only
  exact⟨_,_,_,rfl,hb4,d2,d3,d4⟩
 enc x rest hx hb:=by
  unfold eGrant at hb ⊢
  try simp only[List.append_assoc]at hb ⊢
  unfold grantRd
  rw[(rFlag hn hn2).enc _ _ trivial hb,yab]
  try dsimp only
  replace hb:=ybM hb
  rw[(rText hn hn2).enc _ _ hx.1 hb,yab]
  try dsimp only
  replace hb:=ybM hb
  rw[(rText hn hn2).enc _ _ hx.2.1 hb,yab]
  try dsimp only
  replace hb:=ybM hb
  rw[(rText hn hn2).enc _ _ hx.2.2 hb,yab]
  try dsimp only
theorem rGrants {n:Nat}(hn:300≤n)(hn2:n≤536870912):Rd n (α:=List yat) (ya5.f n) eGrants okGrants (GrsB n) where
 any b e hb:=by
  obtain⟨c,b1,e1,h1,hb1,h2,h3⟩:=(rCount hn hn2 (most:=8) (by omega)).any b e hb
  obtain⟨y,rfl⟩:=Int.eq_ofNat_of_zero_le h2
  rw[ya5.e0,h1,yab]
  try dsimp only
  obtain⟨out',b',e',h4,h5,h6,h7⟩:=rd_any (grantR hn hn2) y (λm out k r=>ya5.J1 n m (out,(y:Int),k,((),()),r,())) (λout r=>some (out,r,())) (λm out k r x r' hk ho hF=>by
   try dsimp only
   rw[ya5.e1,yap,decide_eq_true (by omega),yaq]
   have:∀ (K:yat→yam→Option (ya5.R)),bnd (grantRd n r) (λu=>K u.1 u.2.1)=K x r':=by intro K;rw[hF,yab]
   have h2:=this (λx r'=>gIf ((out.length+1)*56≤70368744177664) (ya5.J1 n m (out++[x],(y:Int),IntKind.i64.wrap ((k:Int)+1),((),()),r',())))
   rw[yar (by omega),ybp k (by omega)]at h2
   unfold grantRd at h2
   simp only[yaS,yab]at h2
   rw[ybp k (by omega)]
   exact h2)
   (λm out r ho=>by
   try dsimp only
   rw[ya5.e1,yap,decide_eq_false (by omega),yaj,ya5.e2]) n 0 [] b1 e1 (by omega) (by omega) rfl (by intro x hx;exact nomatch hx) hb1
  try dsimp only at h4
  rw[show ((0:Nat):Int)=0 from rfl]at h4
  rw[h4]
  exact⟨_,_,_,rfl,h5,by omega,h7⟩
 enc l rest hl hb:=by
  unfold eGrants at hb ⊢
  rw[List.append_assoc]at hb ⊢
  have hlen:=hl.1
  rw[ya5.e0,(rCount hn hn2 (most:=8) (by omega)).enc _ _ ⟨by omega,by omega⟩ hb,yab]
  try dsimp only
  have h4:=rd_enc (grantR hn hn2) l.length (λm out k r=>ya5.J1 n m (out,((l.length:Nat):Int),k,((),()),r,())) (λout r=>some (out,r,())) (λm out k r x r' hk ho hF=>by
   try dsimp only
   rw[ya5.e1,yap,decide_eq_true (by omega),yaq]
   have:∀ (K:yat→yam→Option (ya5.R)),bnd (grantRd n r) (λu=>K u.1 u.2.1)=K x r':=by intro K;rw[hF,yab]
   have h2:=this (λx r'=>gIf ((out.length+1)*56≤70368744177664) (ya5.J1 n m (out++[x],((l.length:Nat):Int),IntKind.i64.wrap ((k:Int)+1),((),()),r',())))
   rw[yar (by omega),ybp k (by omega)]at h2
   unfold grantRd at h2
   simp only[yaS,yab]at h2
   rw[ybp k (by omega)]
   exact h2)
   (λm out r ho=>by
   try dsimp only
   rw[ya5.e1,yap,decide_eq_false (by omega),yaj,ya5.e2]) rest n l 0 [] (by omega) (by omega) rfl hl.2 (ybM hb)
  try dsimp only at h4
  rw[show ((0:Nat):Int)=0 from rfl]at h4
  rw[h4,List.nil_append]
end Go.Proofs.YtdlkpmohjhjmfaaGreatDoor
namespace Go.Proofs.YtdlkpmohjhjmfaaGreatDoor
open Go Go.Va Go.Proofs
theorem yeH {a b:ByteArray}(h:eqS a b=true):a=b:=by rw[eqS_eq,ba_beq]at h;exact of_decide_eq_true h
theorem lockEq {a b:yaZ}(h:eqD yaO a b=true):a=b:=by
 have h:(decide (a.1=b.1)&&(decide (a.2.1=b.2.1)&&((a.2.2.1==b.2.2.1)&&true)))=true:=h
 simp only[Bool.and_eq_true,decide_eq_true_iff,beq_iff_eq,and_true]at h
 obtain⟨h1,h2,h3⟩:=h
 obtain⟨a1,a2,a3,a4⟩:=a
 obtain⟨b1,b2,b3,b4⟩:=b
 dsimp only at h1 h2 h3
 rw[h1,h2,h3]
theorem defEq {a b:yaL}(h:eqD yaA a b=true):a=b:=by
 have h:(decide (a.1=b.1)&&(decide (a.2.1=b.2.1)&&true))=true:=h
 simp only[Bool.and_eq_true,decide_eq_true_iff,and_true]at h
 obtain⟨h1,h2⟩:=h
 obtain⟨a1,a2,a4⟩:=a
 obtain⟨b1,b2,b4⟩:=b
 dsimp only at h1 h2
 rw[h1,h2]
theorem len0 {α:Type}{l:List α}(h:(((l.length:Nat):Int)==0)=true):l=[]:=by
 rw[beq_iff_eq]at h;exact List.eq_nil_of_length_eq_zero (by omega)
theorem okTags_of {l:List yaz}(h:tagsB l=true):okTags l:=by
 obtain⟨h1,h2⟩:=tagsB_len h
 exact⟨h1,λt ht=>by obtain⟨a,b⟩:=tagB_len (h2 t ht);exact⟨by unfold okT;omega,by unfold okT;omega⟩⟩
theorem okLock_of {l:yaZ}(h:lockB l=true)(hi:I64 l.2.1):okLock l:=by
 refine⟨?_,hi⟩
 unfold lockB at h
 unfold Small
 split at h
 ·omega
 ·split at h
  ·omega
  ·exact nomatch h
theorem okDef_of {d:yaL}(h:modeB d=true):okDef d:=by
 unfold modeB at h
 unfold okDef Small
 split at h
 ·rw[beq_iff_eq]at h;omega
 ·simp only[Bool.and_eq_true,Bool.or_eq_true,beq_iff_eq,decide_eq_true_iff]at h;omega
theorem okRule_of {r:yau}(h:ruleB r=true):okRule r:=by
 unfold ruleB at h
 simp only[Bool.and_eq_true,decide_eq_true_iff]at h
 obtain⟨h1,_,h3,h4,h5,h6,h7⟩:=h
 exact⟨by unfold okT;omega,okTags_of h3,by unfold Small;omega,by unfold Small;omega⟩
theorem okRules_of {l:List yau}(h:rulesB l=true):okRules l:=by
 unfold rulesB at h
 simp only[Bool.and_eq_true,decide_eq_true_iff,List.all_eq_true]at h
 exact⟨h.1,λr hr=>okRule_of (h.2 r hr)⟩
theorem okGrant_of {r:yat}(h:grantB r=true):okGrant r:=by
 unfold grantB at h
 simp only[Bool.and_eq_true]at h
 have:=globB_len h.1
 have:=globB_len h.2.1
 have:=globB_len h.2.2
 exact⟨by unfold okT;omega,by unfold okT;omega,by unfold okT;omega⟩
theorem okGrants_of {l:List yat}(h:yeY l=true):okGrants l:=by
 unfold yeY at h
 simp only[Bool.and_eq_true,decide_eq_true_iff,List.all_eq_true]at h
 exact⟨h.1,λr hr=>okGrant_of (h.2 r hr)⟩
def EY (e:E):Prop:=BY (dig e.2.2.2.2.2.1)∧BY e.2.2.2.2.2.2.2.2.2.2.2.1.2.2.2.1
theorem I64_0:I64 0:=by unfold I64;omega
theorem U64_0:U64 0:=by unfold U64;omega
end Go.Proofs.YtdlkpmohjhjmfaaGreatDoor
namespace Go.Proofs.YtdlkpmohjhjmfaaGreatDoor
open Go Go.Va Go.Proofs
theorem ydB {a b:List Int}(ha:BY a)(hb:BY b):BY (a++b):=by
 intro x hx
 rcases List.mem_append.1 hx with h | h
 ·exact ha x h
 ·exact hb x h
theorem ydZ:BY []:=by intro x h;exact nomatch h
theorem BY_flat {α:Type}{f:α→List Int}{l:List α}(h:∀ x∈l,BY (f x)):BY (l.flatMap f):=by
 intro y hy
 obtain⟨x,hx,hy⟩:=List.mem_flatMap.1 hy
 exact h x hx y hy
theorem BY_N (x:Int):BY (eN x):=eN_byte x
theorem BY_W (x:Int):BY (eW x):=eN_byte _
theorem BY_I (x:Int):BY (eI x):=eN_byte _
theorem BY_F (b:Bool):BY (eF b):=by intro x hx;unfold eF at hx;rw[List.mem_singleton]at hx;subst hx;cases b<;>decide
theorem BY_T (s:ByteArray):BY (eT s):=ydB (BY_W _) λx hx=>ofBytes_range hx
theorem BY_Tags (l:List yaz):BY (eTags l):=ydB (BY_W _) (BY_flat λt _=>ydB (BY_T _) (BY_T _))
theorem BY_Lock (l:yaZ):BY (eLock l):=ydB (BY_W _) (ydB (BY_I _) (BY_F _))
theorem BY_Ver {v:Ver}(h:BY (dig v)):BY (eVer v):=by
 refine ydB (BY_N _) (ydB (BY_F _) (ydB (BY_I _) ?_))
 split
 ·exact ydZ
 ·exact ydB (BY_W _) (ydB (BY_N _) (ydB h (ydB (BY_Lock _) (BY_Tags _))))
theorem bytes_inj {a b:List Int}(ha:BY a)(hb:BY b)(h:eqS (yaT a) (yaT b)=true):a=b:=by
 have:=congrArg ybN (yeH h)
 rwa [yen ha,yen hb]at this
structure EsI (n:Nat)(l:List E):Prop where
 r:EsR n l
 y:∀ e∈l,EY e
theorem rEnd {n:Nat}(hn:300≤n)(hn2:n≤536870912)(b:List Int)(e:Int):∃ r',ydc.f n (b,e,())=some ((if e=0 then if b.length=0 then 0 else 2 else e),r',()):=by
 rw[ydc.e0]
 simp only[yap,yaq,yaj,ydc.e1,yds.e0,rfail,yab]
 by_cases h:e=0
 ·subst h
  rw[show ((0:Int)==0)=true from rfl,yaq,if_pos rfl]
  by_cases h0:b.length=0
  ·rw[decide_eq_false (by omega),yaj,if_pos h0];exact⟨_,rfl⟩
  ·rw[decide_eq_true (by omega),yaq,if_neg h0];exact⟨_,rfl⟩
 ·rw[show (e==0)=false from beq_eq_false_iff_ne.2 h,yaj,if_neg h];exact⟨_,rfl⟩
theorem grantRefl (a:yat):sameG a a=true:=by
 change ((a.1==a.1)&&((a.2.1==a.2.1)&&((a.2.2.1==a.2.2.1)&&((a.2.2.2.1==a.2.2.2.1)&&true))))=true
 simp[ba_beq]
theorem ruleRefl (a:yau):sameR a a=true:=by
 unfold sameR
 rw[ybF,allB_refl _ (λx _=>sameT_refl x)]
 simp only[beq_self_eq_true,Bool.and_true]
end Go.Proofs.YtdlkpmohjhjmfaaGreatDoor
namespace Go.Proofs.YtdlkpmohjhjmfaaGreatDoor
open Go Go.Va Go.Proofs
abbrev Q:Type:=yak
abbrev spotZ:ybh:=((⟨#[]⟩:ByteArray),((⟨#[]⟩:ByteArray),(0,())))
def nameB (s:ByteArray):Bool:=decide (s.size≤200)&&yd0 s
structure QB (n:Nat)(e:Q):Prop where
 w:e.2.1.size<n
 b:e.2.2.1.size<n
 y:e.2.2.2.1.size<n
 i:0≤e.2.2.2.2.1
 bo:e.2.2.2.2.2.1.length<n
 tg:TsB n e.2.2.2.2.2.2.1
 r:RusB n e.2.2.2.2.2.2.2.2.2.2.1
 g:GrsB n e.2.2.2.2.2.2.2.2.2.2.2.1
 ns:e.2.2.2.2.2.2.2.2.2.2.2.2.2.1.length<n
 af:e.2.2.2.2.2.2.2.2.2.2.2.2.2.2.1.size<n
 pr:e.2.2.2.2.2.2.2.2.2.2.2.2.2.2.2.1.size<n
 ma:e.2.2.2.2.2.2.2.2.2.2.2.2.2.2.2.2.1.size<n
 fb:e.2.2.2.2.2.2.2.2.2.2.2.2.2.2.2.2.2.1.1.size<n
 fk:e.2.2.2.2.2.2.2.2.2.2.2.2.2.2.2.2.2.1.2.1.size<n
 fi:0≤e.2.2.2.2.2.2.2.2.2.2.2.2.2.2.2.2.2.1.2.2.1
theorem yaJ (x:Bool):hide x=x:=by cases x<;>rw[yap]
theorem bIf_t {α:Type}(x y:α):bIf true x y=x:=by rw[ydC,if_pos rfl]
theorem bIf_f {α:Type}(x y:α):bIf false x y=y:=by rw[ydC,if_neg (by decide)]
theorem bnd_s {α β:Type}(a:α)(f:α→Option β):bnd (some a) f=f a:=by rw[yab]
theorem ya6 {n:Nat}(hn2:n≤536870912){s:ByteArray}(h:s.size<n):ydG.f n s=some (nameB s,()):=by
 rw[ydG.e0,ydL (by omega) h]
 simp only[yap,yab,yck]
 rw[show (200:Int)=((200:Nat):Int) from rfl,dec_cast];rfl
theorem s_may (n:Nat)(R:Q)(ok:Bool)(v:Unit)(b:Bool):yaN.f n (R,(ok,v)) b=some ((R,(ok&&b,v)),()):=by
 rw[yaN.e0];cases ok<;>rfl
theorem s_key {n:Nat}(hn2:n≤536870912)(k:Int)(w:ByteArray)(b:ByteArray)(y:ByteArray)(i:Int)(bo:List Int)(tg:List yaz)(l:yaZ)(q:Bool)(d:yaL)(r:List yau)(g:List yat)(nu:Int)(ns:List Int)(af:ByteArray)(pr:ByteArray)(ma:ByteArray)(fr:ybh)(mx:Int)(u:Unit)(ok:Bool)(v:Unit)(h:y.size<n):ybY.f n ((k,w,b,y,i,bo,tg,l,q,d,r,g,nu,ns,af,pr,ma,fr,mx,u),(ok,v))=some (((k,w,b,(⟨#[]⟩:ByteArray),i,bo,tg,l,q,d,r,g,nu,ns,af,pr,ma,fr,mx,u),(ok&&keyB y,v)),()):=by
 rw[ybY.e0]
 try dsimp only
 rw[key24 h hn2,yab,s_may,yab]
theorem s_id {n:Nat}(hn2:n≤536870912)(k:Int)(w:ByteArray)(b:ByteArray)(y:ByteArray)(i:Int)(bo:List Int)(tg:List yaz)(l:yaZ)(q:Bool)(d:yaL)(r:List yau)(g:List yat)(nu:Int)(ns:List Int)(af:ByteArray)(pr:ByteArray)(ma:ByteArray)(fr:ybh)(mx:Int)(u:Unit)(ok:Bool)(v:Unit)(le:Int):ycj.f n ((k,w,b,y,i,bo,tg,l,q,d,r,g,nu,ns,af,pr,ma,fr,mx,u),(ok,v)) le=some (((k,w,b,y,0,bo,tg,l,q,d,r,g,nu,ns,af,pr,ma,fr,mx,u),(ok&&decide (i≥le),v)),()):=by
 rw[ycj.e0]
 try dsimp only
 rw[s_may,yab,yap]
theorem yfr {n:Nat}(hn2:n≤536870912)(k:Int)(w:ByteArray)(b:ByteArray)(y:ByteArray)(i:Int)(bo:List Int)(tg:List yaz)(l:yaZ)(q:Bool)(d:yaL)(r:List yau)(g:List yat)(nu:Int)(ns:List Int)(af:ByteArray)(pr:ByteArray)(ma:ByteArray)(fr:ybh)(mx:Int)(u:Unit)(ok:Bool)(v:Unit):ydb.f n ((k,w,b,y,i,bo,tg,l,q,d,r,g,nu,ns,af,pr,ma,fr,mx,u),(ok,v))=some (((k,w,b,y,i,[],tg,l,q,d,r,g,nu,ns,af,pr,ma,fr,mx,u),(ok&&decide (((bo.length:Nat):Int)≤1024),v)),()):=by
 rw[ydb.e0]
 try dsimp only
 rw[s_may,yab,yap]
theorem yfq {n:Nat}(hn2:n≤536870912)(k:Int)(w:ByteArray)(b:ByteArray)(y:ByteArray)(i:Int)(bo:List Int)(tg:List yaz)(l:yaZ)(q:Bool)(d:yaL)(r:List yau)(g:List yat)(nu:Int)(ns:List Int)(af:ByteArray)(pr:ByteArray)(ma:ByteArray)(fr:ybh)(mx:Int)(u:Unit)(ok:Bool)(v:Unit)(h:TsB n tg):yc1.f n ((k,w,b,y,i,bo,tg,l,q,d,r,g,nu,ns,af,pr,ma,fr,mx,u),(ok,v))=some (((k,w,b,y,i,bo,[],l,q,d,r,g,nu,ns,af,pr,ma,fr,mx,u),(ok&&tagsB tg,v)),()):=by
 rw[yc1.e0]
 try dsimp only
 rw[tags35 hn2 h,yab,s_may,yab]
theorem yfn {n:Nat}(hn2:n≤536870912)(k:Int)(w:ByteArray)(b:ByteArray)(y:ByteArray)(i:Int)(bo:List Int)(tg:List yaz)(l:yaZ)(q:Bool)(d:yaL)(r:List yau)(g:List yat)(nu:Int)(ns:List Int)(af:ByteArray)(pr:ByteArray)(ma:ByteArray)(fr:ybh)(mx:Int)(u:Unit)(ok:Bool)(v:Unit)(c:Bool):ycY.f n ((k,w,b,y,i,bo,tg,l,q,d,r,g,nu,ns,af,pr,ma,fr,mx,u),(ok,v)) c=some (((k,w,b,y,i,bo,tg,lockZ,q,d,r,g,nu,ns,af,pr,ma,fr,mx,u),(ok&&(lockB l&&c),v)),()):=by
 rw[ycY.e0]
 try dsimp only
 rw[lock34,yab,s_may,s_may,yab,yab];cases lockB l<;>rfl
theorem yfi {n:Nat}(hn2:n≤536870912)(k:Int)(w:ByteArray)(b:ByteArray)(y:ByteArray)(i:Int)(bo:List Int)(tg:List yaz)(l:yaZ)(q:Bool)(d:yaL)(r:List yau)(g:List yat)(nu:Int)(ns:List Int)(af:ByteArray)(pr:ByteArray)(ma:ByteArray)(fr:ybh)(mx:Int)(u:Unit)(ok:Bool)(v:Unit)(c:Bool):ycu.f n ((k,w,b,y,i,bo,tg,l,q,d,r,g,nu,ns,af,pr,ma,fr,mx,u),(ok,v)) c=some (((k,w,b,y,i,bo,tg,l,q,d,r,g,nu,ns,af,pr,ma,spotZ,mx,u),(ok&&c,v)),()):=by
 rw[ycu.e0]
 try dsimp only
 rw[s_may,yab]
theorem yfp {n:Nat}(hn2:n≤536870912)(k:Int)(w:ByteArray)(b:ByteArray)(y:ByteArray)(i:Int)(bo:List Int)(tg:List yaz)(l:yaZ)(q:Bool)(d:yaL)(r:List yau)(g:List yat)(nu:Int)(ns:List Int)(af:ByteArray)(pr:ByteArray)(ma:ByteArray)(fr:ybh)(mx:Int)(u:Unit)(ok:Bool)(v:Unit)(h:pr.size<n):yc2.f n ((k,w,b,y,i,bo,tg,l,q,d,r,g,nu,ns,af,pr,ma,fr,mx,u),(ok,v))=some (((k,w,b,y,i,bo,tg,l,q,d,r,g,nu,ns,af,(⟨#[]⟩:ByteArray),ma,fr,0,u),(ok&&(nameB pr&&(decide (mx≥1)&&decide (mx≤100))),v)),()):=by
 rw[yc2.e0]
 try dsimp only
 rw[ya6 hn2 h,yab];simp only[s_may,yab,yc2.e1,yap];cases nameB pr<;>cases decide (mx≥1)<;>rfl
theorem ydT (n:Nat)(k:Int)(w:ByteArray)(b:ByteArray)(y:ByteArray)(i:Int)(bo:List Int)(tg:List yaz)(l:yaZ)(q:Bool)(d:yaL)(r:List yau)(g:List yat)(nu:Int)(ns:List Int)(af:ByteArray)(pr:ByteArray)(ma:ByteArray)(fr:ybh)(mx:Int)(u:Unit)(ok:Bool)(v:Unit):ycQ.f n ((k,w,b,y,i,bo,tg,l,q,d,r,g,nu,ns,af,pr,ma,fr,mx,u),(ok,v))=some (((k,w,b,y,i,bo,tg,l,false,d,r,g,nu,ns,af,pr,ma,fr,mx,u),(ok,v)),()):=by
 rw[ycQ.e0]
theorem yfh (n:Nat)(k:Int)(w:ByteArray)(b:ByteArray)(y:ByteArray)(i:Int)(bo:List Int)(tg:List yaz)(l:yaZ)(q:Bool)(d:yaL)(r:List yau)(g:List yat)(nu:Int)(ns:List Int)(af:ByteArray)(pr:ByteArray)(ma:ByteArray)(fr:ybh)(mx:Int)(u:Unit):ye1.f n (k,w,b,y,i,bo,tg,l,q,d,r,g,nu,ns,af,pr,ma,fr,mx,u)=some (eqS y ⟨#[]⟩&&((i==0)&&((((bo.length:Nat):Int)==0)&&((((tg.length:Nat):Int)==0)&&(eqD yaO l lockZ&&((!q)&&(eqD yaA d (0,(0,()))&&((((r.length:Nat):Int)==0)&&((((g.length:Nat):Int)==0)&&((nu==0)&&((((ns.length:Nat):Int)==0)&&(eqS af ⟨#[]⟩&&(eqS pr ⟨#[]⟩&&(eqS ma ⟨#[]⟩&&(eqD ya0 fr spotZ&&((mx==0)))))))))))))))),()):=by
 rw[ye1.e0]
 simp only[yap,yck]
theorem own_1 {n:Nat}(h3:300≤n)(hn2:n≤536870912)(w:ByteArray)(b:ByteArray)(y:ByteArray)(i:Int)(bo:List Int)(tg:List yaz)(l:yaZ)(q:Bool)(d:yaL)(r:List yau)(g:List yat)(nu:Int)(ns:List Int)(af:ByteArray)(pr:ByteArray)(ma:ByteArray)(fr:ybh)(mx:Int)(u:Unit)(he:QB n (1,w,b,y,i,bo,tg,l,q,d,r,g,nu,ns,af,pr,ma,fr,mx,u)):yaf.f n ((1,w,b,y,i,bo,tg,l,q,d,r,g,nu,ns,af,pr,ma,fr,mx,u),(true,()))=some (((1,w,b,y,i,bo,tg,l,q,(0,(0,())),r,g,nu,ns,af,pr,ma,fr,mx,u),(true&&modeB d,())),()):=by
 rw[yaf.e0]
 simp only[yaf.e1,yaf.e2,yaf.e3,yaf.e4,yaJ,Int.reduceBEq,bIf_t,bIf_f,bnd_s,s_may,ydo,ycE hn2 he.r,ycd hn2 he.g,s_key hn2 (h:=he.y),s_id hn2,yfr hn2,yfq hn2 (h:=he.tg),yfn hn2,yfi hn2,yfp hn2 (h:=he.pr),ydT,ya6 hn2 he.ma,ya6 hn2 he.af,ya6 hn2 he.fk,ya3 h3,key24 he.fk hn2]
theorem own_2 {n:Nat}(h3:300≤n)(hn2:n≤536870912)(w:ByteArray)(b:ByteArray)(y:ByteArray)(i:Int)(bo:List Int)(tg:List yaz)(l:yaZ)(q:Bool)(d:yaL)(r:List yau)(g:List yat)(nu:Int)(ns:List Int)(af:ByteArray)(pr:ByteArray)(ma:ByteArray)(fr:ybh)(mx:Int)(u:Unit)(he:QB n (2,w,b,y,i,bo,tg,l,q,d,r,g,nu,ns,af,pr,ma,fr,mx,u)):yaf.f n ((2,w,b,y,i,bo,tg,l,q,d,r,g,nu,ns,af,pr,ma,fr,mx,u),(true,()))=some (((2,w,b,y,i,bo,tg,l,q,d,r,g,nu,ns,af,pr,ma,fr,mx,u),(true,())),()):=by
 rw[yaf.e0]
 simp only[yaf.e1,yaf.e2,yaf.e3,yaf.e4,yaJ,Int.reduceBEq,bIf_t,bIf_f,bnd_s,s_may,ydo,ycE hn2 he.r,ycd hn2 he.g,s_key hn2 (h:=he.y),s_id hn2,yfr hn2,yfq hn2 (h:=he.tg),yfn hn2,yfi hn2,yfp hn2 (h:=he.pr),ydT,ya6 hn2 he.ma,ya6 hn2 he.af,ya6 hn2 he.fk,ya3 h3,key24 he.fk hn2]
theorem own_3 {n:Nat}(h3:300≤n)(hn2:n≤536870912)(w:ByteArray)(b:ByteArray)(y:ByteArray)(i:Int)(bo:List Int)(tg:List yaz)(l:yaZ)(q:Bool)(d:yaL)(r:List yau)(g:List yat)(nu:Int)(ns:List Int)(af:ByteArray)(pr:ByteArray)(ma:ByteArray)(fr:ybh)(mx:Int)(u:Unit)(he:QB n (3,w,b,y,i,bo,tg,l,q,d,r,g,nu,ns,af,pr,ma,fr,mx,u)):yaf.f n ((3,w,b,y,i,bo,tg,l,q,d,r,g,nu,ns,af,pr,ma,fr,mx,u),(true,()))=some (((3,w,b,y,i,bo,tg,l,q,(0,(0,())),r,g,nu,ns,af,pr,ma,fr,mx,u),(true&&modeB d,())),()):=by
 rw[yaf.e0]
 simp only[yaf.e1,yaf.e2,yaf.e3,yaf.e4,yaJ,Int.reduceBEq,bIf_t,bIf_f,bnd_s,s_may,ydo,ycE hn2 he.r,ycd hn2 he.g,s_key hn2 (h:=he.y),s_id hn2,yfr hn2,yfq hn2 (h:=he.tg),yfn hn2,yfi hn2,yfp hn2 (h:=he.pr),ydT,ya6 hn2 he.ma,ya6 hn2 he.af,ya6 hn2 he.fk,ya3 h3,key24 he.fk hn2]
theorem own_4 {n:Nat}(h3:300≤n)(hn2:n≤536870912)(w:ByteArray)(b:ByteArray)(y:ByteArray)(i:Int)(bo:List Int)(tg:List yaz)(l:yaZ)(q:Bool)(d:yaL)(r:List yau)(g:List yat)(nu:Int)(ns:List Int)(af:ByteArray)(pr:ByteArray)(ma:ByteArray)(fr:ybh)(mx:Int)(u:Unit)(he:QB n (4,w,b,y,i,bo,tg,l,q,d,r,g,nu,ns,af,pr,ma,fr,mx,u)):yaf.f n ((4,w,b,y,i,bo,tg,l,q,d,r,g,nu,ns,af,pr,ma,fr,mx,u),(true,()))=some (((4,w,b,y,i,bo,tg,l,q,d,[],g,nu,ns,af,pr,ma,fr,mx,u),(true&&rulesB r,())),()):=by
 rw[yaf.e0]
 simp only[yaf.e1,yaf.e2,yaf.e3,yaf.e4,yaJ,Int.reduceBEq,bIf_t,bIf_f,bnd_s,s_may,ydo,ycE hn2 he.r,ycd hn2 he.g,s_key hn2 (h:=he.y),s_id hn2,yfr hn2,yfq hn2 (h:=he.tg),yfn hn2,yfi hn2,yfp hn2 (h:=he.pr),ydT,ya6 hn2 he.ma,ya6 hn2 he.af,ya6 hn2 he.fk,ya3 h3,key24 he.fk hn2]
theorem own_5 {n:Nat}(h3:300≤n)(hn2:n≤536870912)(w:ByteArray)(b:ByteArray)(y:ByteArray)(i:Int)(bo:List Int)(tg:List yaz)(l:yaZ)(q:Bool)(d:yaL)(r:List yau)(g:List yat)(nu:Int)(ns:List Int)(af:ByteArray)(pr:ByteArray)(ma:ByteArray)(fr:ybh)(mx:Int)(u:Unit)(he:QB n (5,w,b,y,i,bo,tg,l,q,d,r,g,nu,ns,af,pr,ma,fr,mx,u)):yaf.f n ((5,w,b,y,i,bo,tg,l,q,d,r,g,nu,ns,af,pr,ma,fr,mx,u),(true,()))=some (((5,w,b,y,i,bo,tg,l,q,d,r,[],nu,ns,af,pr,ma,fr,mx,u),(true&&yeY g,())),()):=by
 rw[yaf.e0]
 simp only[yaf.e1,yaf.e2,yaf.e3,yaf.e4,yaJ,Int.reduceBEq,bIf_t,bIf_f,bnd_s,s_may,ydo,ycE hn2 he.r,ycd hn2 he.g,s_key hn2 (h:=he.y),s_id hn2,yfr hn2,yfq hn2 (h:=he.tg),yfn hn2,yfi hn2,yfp hn2 (h:=he.pr),ydT,ya6 hn2 he.ma,ya6 hn2 he.af,ya6 hn2 he.fk,ya3 h3,key24 he.fk hn2]
theorem own_6 {n:Nat}(h3:300≤n)(hn2:n≤536870912)(w:ByteArray)(b:ByteArray)(y:ByteArray)(i:Int)(bo:List Int)(tg:List yaz)(l:yaZ)(q:Bool)(d:yaL)(r:List yau)(g:List yat)(nu:Int)(ns:List Int)(af:ByteArray)(pr:ByteArray)(ma:ByteArray)(fr:ybh)(mx:Int)(u:Unit)(he:QB n (6,w,b,y,i,bo,tg,l,q,d,r,g,nu,ns,af,pr,ma,fr,mx,u)):yaf.f n ((6,w,b,y,i,bo,tg,l,q,d,r,g,nu,ns,af,pr,ma,fr,mx,u),(true,()))=some (((6,w,b,(⟨#[]⟩:ByteArray),i,[],[],lockZ,q,d,r,g,nu,ns,af,pr,ma,fr,mx,u),(true&&keyB y&&decide (((bo.length:Nat):Int)≤1024)&&tagsB tg&&(lockB l&&true),())),()):=by
 rw[yaf.e0]
 simp only[yaf.e1,yaf.e2,yaf.e3,yaf.e4,yaJ,Int.reduceBEq,bIf_t,bIf_f,bnd_s,s_may,ydo,ycE hn2 he.r,ycd hn2 he.g,s_key hn2 (h:=he.y),s_id hn2,yfr hn2,yfq hn2 (h:=he.tg),yfn hn2,yfi hn2,yfp hn2 (h:=he.pr),ydT,ya6 hn2 he.ma,ya6 hn2 he.af,ya6 hn2 he.fk,ya3 h3,key24 he.fk hn2]
theorem own_7 {n:Nat}(h3:300≤n)(hn2:n≤536870912)(w:ByteArray)(b:ByteArray)(y:ByteArray)(i:Int)(bo:List Int)(tg:List yaz)(l:yaZ)(q:Bool)(d:yaL)(r:List yau)(g:List yat)(nu:Int)(ns:List Int)(af:ByteArray)(pr:ByteArray)(ma:ByteArray)(fr:ybh)(mx:Int)(u:Unit)(he:QB n (7,w,b,y,i,bo,tg,l,q,d,r,g,nu,ns,af,pr,ma,fr,mx,u)):yaf.f n ((7,w,b,y,i,bo,tg,l,q,d,r,g,nu,ns,af,pr,ma,fr,mx,u),(true,()))=some (((7,w,b,(⟨#[]⟩:ByteArray),0,bo,tg,l,q,d,r,g,nu,ns,af,pr,ma,fr,mx,u),(true&&keyB y&&decide (i≥0),())),()):=by
 rw[yaf.e0]
 simp only[yaf.e1,yaf.e2,yaf.e3,yaf.e4,yaJ,Int.reduceBEq,bIf_t,bIf_f,bnd_s,s_may,ydo,ycE hn2 he.r,ycd hn2 he.g,s_key hn2 (h:=he.y),s_id hn2,yfr hn2,yfq hn2 (h:=he.tg),yfn hn2,yfi hn2,yfp hn2 (h:=he.pr),ydT,ya6 hn2 he.ma,ya6 hn2 he.af,ya6 hn2 he.fk,ya3 h3,key24 he.fk hn2]
theorem own_8 {n:Nat}(h3:300≤n)(hn2:n≤536870912)(w:ByteArray)(b:ByteArray)(y:ByteArray)(i:Int)(bo:List Int)(tg:List yaz)(l:yaZ)(q:Bool)(d:yaL)(r:List yau)(g:List yat)(nu:Int)(ns:List Int)(af:ByteArray)(pr:ByteArray)(ma:ByteArray)(fr:ybh)(mx:Int)(u:Unit)(he:QB n (8,w,b,y,i,bo,tg,l,q,d,r,g,nu,ns,af,pr,ma,fr,mx,u)):yaf.f n ((8,w,b,y,i,bo,tg,l,q,d,r,g,nu,ns,af,pr,ma,fr,mx,u),(true,()))=some (((8,w,b,(⟨#[]⟩:ByteArray),0,bo,tg,l,q,d,r,g,nu,ns,af,pr,ma,fr,mx,u),(true&&keyB y&&decide (i≥0),())),()):=by
 rw[yaf.e0]
 simp only[yaf.e1,yaf.e2,yaf.e3,yaf.e4,yaJ,Int.reduceBEq,bIf_t,bIf_f,bnd_s,s_may,ydo,ycE hn2 he.r,ycd hn2 he.g,s_key hn2 (h:=he.y),s_id hn2,yfr hn2,yfq hn2 (h:=he.tg),yfn hn2,yfi hn2,yfp hn2 (h:=he.pr),ydT,ya6 hn2 he.ma,ya6 hn2 he.af,ya6 hn2 he.fk,ya3 h3,key24 he.fk hn2]
theorem own_9 {n:Nat}(h3:300≤n)(hn2:n≤536870912)(w:ByteArray)(b:ByteArray)(y:ByteArray)(i:Int)(bo:List Int)(tg:List yaz)(l:yaZ)(q:Bool)(d:yaL)(r:List yau)(g:List yat)(nu:Int)(ns:List Int)(af:ByteArray)(pr:ByteArray)(ma:ByteArray)(fr:ybh)(mx:Int)(u:Unit)(he:QB n (9,w,b,y,i,bo,tg,l,q,d,r,g,nu,ns,af,pr,ma,fr,mx,u)):yaf.f n ((9,w,b,y,i,bo,tg,l,q,d,r,g,nu,ns,af,pr,ma,fr,mx,u),(true,()))=some (((9,w,b,(⟨#[]⟩:ByteArray),i,bo,tg,l,q,d,r,g,nu,ns,af,pr,ma,fr,mx,u),(true&&keyB y,())),()):=by
 rw[yaf.e0]
 simp only[yaf.e1,yaf.e2,yaf.e3,yaf.e4,yaJ,Int.reduceBEq,bIf_t,bIf_f,bnd_s,s_may,ydo,ycE hn2 he.r,ycd hn2 he.g,s_key hn2 (h:=he.y),s_id hn2,yfr hn2,yfq hn2 (h:=he.tg),yfn hn2,yfi hn2,yfp hn2 (h:=he.pr),ydT,ya6 hn2 he.ma,ya6 hn2 he.af,ya6 hn2 he.fk,ya3 h3,key24 he.fk hn2]
theorem own_10 {n:Nat}(h3:300≤n)(hn2:n≤536870912)(w:ByteArray)(b:ByteArray)(y:ByteArray)(i:Int)(bo:List Int)(tg:List yaz)(l:yaZ)(q:Bool)(d:yaL)(r:List yau)(g:List yat)(nu:Int)(ns:List Int)(af:ByteArray)(pr:ByteArray)(ma:ByteArray)(fr:ybh)(mx:Int)(u:Unit)(he:QB n (10,w,b,y,i,bo,tg,l,q,d,r,g,nu,ns,af,pr,ma,fr,mx,u)):yaf.f n ((10,w,b,y,i,bo,tg,l,q,d,r,g,nu,ns,af,pr,ma,fr,mx,u),(true,()))=some (((10,w,b,(⟨#[]⟩:ByteArray),0,bo,tg,l,false,d,r,g,nu,ns,af,pr,ma,fr,mx,u),(true&&keyB y&&decide (i≥1),())),()):=by
 rw[yaf.e0]
 simp only[yaf.e1,yaf.e2,yaf.e3,yaf.e4,yaJ,Int.reduceBEq,bIf_t,bIf_f,bnd_s,s_may,ydo,ycE hn2 he.r,ycd hn2 he.g,s_key hn2 (h:=he.y),s_id hn2,yfr hn2,yfq hn2 (h:=he.tg),yfn hn2,yfi hn2,yfp hn2 (h:=he.pr),ydT,ya6 hn2 he.ma,ya6 hn2 he.af,ya6 hn2 he.fk,ya3 h3,key24 he.fk hn2]
theorem own_11 {n:Nat}(h3:300≤n)(hn2:n≤536870912)(w:ByteArray)(b:ByteArray)(y:ByteArray)(i:Int)(bo:List Int)(tg:List yaz)(l:yaZ)(q:Bool)(d:yaL)(r:List yau)(g:List yat)(nu:Int)(ns:List Int)(af:ByteArray)(pr:ByteArray)(ma:ByteArray)(fr:ybh)(mx:Int)(u:Unit)(he:QB n (11,w,b,y,i,bo,tg,l,q,d,r,g,nu,ns,af,pr,ma,fr,mx,u)):yaf.f n ((11,w,b,y,i,bo,tg,l,q,d,r,g,nu,ns,af,pr,ma,fr,mx,u),(true,()))=some (((11,w,b,(⟨#[]⟩:ByteArray),0,bo,tg,lockZ,false,d,r,g,nu,ns,af,pr,ma,fr,mx,u),(true&&keyB y&&decide (i≥0)&&(lockB l&&!l.2.2.1),())),()):=by
 rw[yaf.e0]
 simp only[yaf.e1,yaf.e2,yaf.e3,yaf.e4,yaJ,Int.reduceBEq,bIf_t,bIf_f,bnd_s,s_may,ydo,ycE hn2 he.r,ycd hn2 he.g,s_key hn2 (h:=he.y),s_id hn2,yfr hn2,yfq hn2 (h:=he.tg),yfn hn2,yfi hn2,yfp hn2 (h:=he.pr),ydT,ya6 hn2 he.ma,ya6 hn2 he.af,ya6 hn2 he.fk,ya3 h3,key24 he.fk hn2]
theorem own_12 {n:Nat}(h3:300≤n)(hn2:n≤536870912)(w:ByteArray)(b:ByteArray)(y:ByteArray)(i:Int)(bo:List Int)(tg:List yaz)(l:yaZ)(q:Bool)(d:yaL)(r:List yau)(g:List yat)(nu:Int)(ns:List Int)(af:ByteArray)(pr:ByteArray)(ma:ByteArray)(fr:ybh)(mx:Int)(u:Unit)(he:QB n (12,w,b,y,i,bo,tg,l,q,d,r,g,nu,ns,af,pr,ma,fr,mx,u)):yaf.f n ((12,w,b,y,i,bo,tg,l,q,d,r,g,nu,ns,af,pr,ma,fr,mx,u),(true,()))=some (((12,w,b,(⟨#[]⟩:ByteArray),0,bo,tg,lockZ,q,d,r,g,nu,ns,af,pr,ma,fr,mx,u),(true&&keyB y&&decide (i≥0)&&(lockB l&&(l.1==0)),())),()):=by
 rw[yaf.e0]
 simp only[yaf.e1,yaf.e2,yaf.e3,yaf.e4,yaJ,Int.reduceBEq,bIf_t,bIf_f,bnd_s,s_may,ydo,ycE hn2 he.r,ycd hn2 he.g,s_key hn2 (h:=he.y),s_id hn2,yfr hn2,yfq hn2 (h:=he.tg),yfn hn2,yfi hn2,yfp hn2 (h:=he.pr),ydT,ya6 hn2 he.ma,ya6 hn2 he.af,ya6 hn2 he.fk,ya3 h3,key24 he.fk hn2]
theorem own_13 {n:Nat}(h3:300≤n)(hn2:n≤536870912)(w:ByteArray)(b:ByteArray)(y:ByteArray)(i:Int)(bo:List Int)(tg:List yaz)(l:yaZ)(q:Bool)(d:yaL)(r:List yau)(g:List yat)(nu:Int)(ns:List Int)(af:ByteArray)(pr:ByteArray)(ma:ByteArray)(fr:ybh)(mx:Int)(u:Unit)(he:QB n (13,w,b,y,i,bo,tg,l,q,d,r,g,nu,ns,af,pr,ma,fr,mx,u)):yaf.f n ((13,w,b,y,i,bo,tg,l,q,d,r,g,nu,ns,af,pr,ma,fr,mx,u),(true,()))=some (((13,w,b,(⟨#[]⟩:ByteArray),0,bo,[],l,q,d,r,g,nu,ns,af,pr,ma,fr,mx,u),(true&&keyB y&&decide (i≥0)&&tagsB tg,())),()):=by
 rw[yaf.e0]
 simp only[yaf.e1,yaf.e2,yaf.e3,yaf.e4,yaJ,Int.reduceBEq,bIf_t,bIf_f,bnd_s,s_may,ydo,ycE hn2 he.r,ycd hn2 he.g,s_key hn2 (h:=he.y),s_id hn2,yfr hn2,yfq hn2 (h:=he.tg),yfn hn2,yfi hn2,yfp hn2 (h:=he.pr),ydT,ya6 hn2 he.ma,ya6 hn2 he.af,ya6 hn2 he.fk,ya3 h3,key24 he.fk hn2]
theorem own_14 {n:Nat}(h3:300≤n)(hn2:n≤536870912)(w:ByteArray)(b:ByteArray)(y:ByteArray)(i:Int)(bo:List Int)(tg:List yaz)(l:yaZ)(q:Bool)(d:yaL)(r:List yau)(g:List yat)(nu:Int)(ns:List Int)(af:ByteArray)(pr:ByteArray)(ma:ByteArray)(fr:ybh)(mx:Int)(u:Unit)(he:QB n (14,w,b,y,i,bo,tg,l,q,d,r,g,nu,ns,af,pr,ma,fr,mx,u)):yaf.f n ((14,w,b,y,i,bo,tg,l,q,d,r,g,nu,ns,af,pr,ma,fr,mx,u),(true,()))=some (((14,w,b,y,i,bo,tg,l,q,d,r,g,nu,ns,(⟨#[]⟩:ByteArray),(⟨#[]⟩:ByteArray),(⟨#[]⟩:ByteArray),fr,0,u),(true&&(nameB pr&&(decide (mx≥1)&&decide (mx≤100)))&&(nameB ma&&nameB af),())),()):=by
 rw[yaf.e0]
 simp only[yaf.e1,yaf.e2,yaf.e3,yaf.e4,yaJ,Int.reduceBEq,bIf_t,bIf_f,bnd_s,s_may,ydo,ycE hn2 he.r,ycd hn2 he.g,s_key hn2 (h:=he.y),s_id hn2,yfr hn2,yfq hn2 (h:=he.tg),yfn hn2,yfi hn2,yfp hn2 (h:=he.pr),ydT,ya6 hn2 he.ma,ya6 hn2 he.af,ya6 hn2 he.fk,ya3 h3,key24 he.fk hn2]
 try (cases nameB ma<;>simp only[Bool.and_false,Bool.false_and,bIf_t,bIf_f,Bool.true_and])
theorem own_15 {n:Nat}(h3:300≤n)(hn2:n≤536870912)(w:ByteArray)(b:ByteArray)(y:ByteArray)(i:Int)(bo:List Int)(tg:List yaz)(l:yaZ)(q:Bool)(d:yaL)(r:List yau)(g:List yat)(nu:Int)(ns:List Int)(af:ByteArray)(pr:ByteArray)(ma:ByteArray)(fr:ybh)(mx:Int)(u:Unit)(he:QB n (15,w,b,y,i,bo,tg,l,q,d,r,g,nu,ns,af,pr,ma,fr,mx,u)):yaf.f n ((15,w,b,y,i,bo,tg,l,q,d,r,g,nu,ns,af,pr,ma,fr,mx,u),(true,()))=some (((15,w,b,y,i,bo,tg,l,q,d,r,g,nu,ns,af,(⟨#[]⟩:ByteArray),ma,spotZ,0,u),(true&&(nameB pr&&(decide (mx≥1)&&decide (mx≤100)))&&(eqS fr.1 ⟨#[]⟩&&nameB fr.2.1),())),()):=by
 rw[yaf.e0]
 simp only[yaf.e1,yaf.e2,yaf.e3,yaf.e4,yaJ,Int.reduceBEq,bIf_t,bIf_f,bnd_s,s_may,ydo,ycE hn2 he.r,ycd hn2 he.g,s_key hn2 (h:=he.y),s_id hn2,yfr hn2,yfq hn2 (h:=he.tg),yfn hn2,yfi hn2,yfp hn2 (h:=he.pr),ydT,ya6 hn2 he.ma,ya6 hn2 he.af,ya6 hn2 he.fk,ya3 h3,key24 he.fk hn2]
 try (cases eqS fr.1 ⟨#[]⟩<;>simp only[Bool.and_false,Bool.false_and,bIf_t,bIf_f,Bool.true_and])
theorem own_16 {n:Nat}(h3:300≤n)(hn2:n≤536870912)(w:ByteArray)(b:ByteArray)(y:ByteArray)(i:Int)(bo:List Int)(tg:List yaz)(l:yaZ)(q:Bool)(d:yaL)(r:List yau)(g:List yat)(nu:Int)(ns:List Int)(af:ByteArray)(pr:ByteArray)(ma:ByteArray)(fr:ybh)(mx:Int)(u:Unit)(he:QB n (16,w,b,y,i,bo,tg,l,q,d,r,g,nu,ns,af,pr,ma,fr,mx,u)):yaf.f n ((16,w,b,y,i,bo,tg,l,q,d,r,g,nu,ns,af,pr,ma,fr,mx,u),(true,()))=some (((16,w,b,(⟨#[]⟩:ByteArray),i,bo,[],l,q,d,r,g,nu,ns,af,pr,ma,fr,mx,u),(true&&keyB y&&tagsB tg,())),()):=by
 rw[yaf.e0]
 simp only[yaf.e1,yaf.e2,yaf.e3,yaf.e4,yaJ,Int.reduceBEq,bIf_t,bIf_f,bnd_s,s_may,ydo,ycE hn2 he.r,ycd hn2 he.g,s_key hn2 (h:=he.y),s_id hn2,yfr hn2,yfq hn2 (h:=he.tg),yfn hn2,yfi hn2,yfp hn2 (h:=he.pr),ydT,ya6 hn2 he.ma,ya6 hn2 he.af,ya6 hn2 he.fk,ya3 h3,key24 he.fk hn2]
theorem own_17 {n:Nat}(h3:300≤n)(hn2:n≤536870912)(w:ByteArray)(b:ByteArray)(y:ByteArray)(i:Int)(bo:List Int)(tg:List yaz)(l:yaZ)(q:Bool)(d:yaL)(r:List yau)(g:List yat)(nu:Int)(ns:List Int)(af:ByteArray)(pr:ByteArray)(ma:ByteArray)(fr:ybh)(mx:Int)(u:Unit)(he:QB n (17,w,b,y,i,bo,tg,l,q,d,r,g,nu,ns,af,pr,ma,fr,mx,u)):yaf.f n ((17,w,b,y,i,bo,tg,l,q,d,r,g,nu,ns,af,pr,ma,fr,mx,u),(true,()))=some (((17,w,b,y,0,[],tg,l,q,d,r,g,0,ns,af,pr,ma,fr,mx,u),(true&&decide (i≥1)&&decide (((bo.length:Nat):Int)≤1024)&&(decide (nu≥1)&&decide (nu≤10000)),())),()):=by
 rw[yaf.e0]
 simp only[yaf.e1,yaf.e2,yaf.e3,yaf.e4,yaJ,Int.reduceBEq,bIf_t,bIf_f,bnd_s,s_may,ydo,ycE hn2 he.r,ycd hn2 he.g,s_key hn2 (h:=he.y),s_id hn2,yfr hn2,yfq hn2 (h:=he.tg),yfn hn2,yfi hn2,yfp hn2 (h:=he.pr),ydT,ya6 hn2 he.ma,ya6 hn2 he.af,ya6 hn2 he.fk,ya3 h3,key24 he.fk hn2]
 try (cases decide (nu≥1)<;>simp only[Bool.and_false,Bool.false_and,bIf_t,bIf_f,Bool.true_and])
theorem own_18 {n:Nat}(h3:300≤n)(hn2:n≤536870912)(w:ByteArray)(b:ByteArray)(y:ByteArray)(i:Int)(bo:List Int)(tg:List yaz)(l:yaZ)(q:Bool)(d:yaL)(r:List yau)(g:List yat)(nu:Int)(ns:List Int)(af:ByteArray)(pr:ByteArray)(ma:ByteArray)(fr:ybh)(mx:Int)(u:Unit)(he:QB n (18,w,b,y,i,bo,tg,l,q,d,r,g,nu,ns,af,pr,ma,fr,mx,u)):yaf.f n ((18,w,b,y,i,bo,tg,l,q,d,r,g,nu,ns,af,pr,ma,fr,mx,u),(true,()))=some (((18,w,b,y,0,bo,tg,l,q,d,r,g,nu,[],af,pr,ma,fr,mx,u),(true&&decide (i≥1)&&decide (((ns.length:Nat):Int)≤16),())),()):=by
 rw[yaf.e0]
 simp only[yaf.e1,yaf.e2,yaf.e3,yaf.e4,yaJ,Int.reduceBEq,bIf_t,bIf_f,bnd_s,s_may,ydo,ycE hn2 he.r,ycd hn2 he.g,s_key hn2 (h:=he.y),s_id hn2,yfr hn2,yfq hn2 (h:=he.tg),yfn hn2,yfi hn2,yfp hn2 (h:=he.pr),ydT,ya6 hn2 he.ma,ya6 hn2 he.af,ya6 hn2 he.fk,ya3 h3,key24 he.fk hn2]
theorem own_19 {n:Nat}(h3:300≤n)(hn2:n≤536870912)(w:ByteArray)(b:ByteArray)(y:ByteArray)(i:Int)(bo:List Int)(tg:List yaz)(l:yaZ)(q:Bool)(d:yaL)(r:List yau)(g:List yat)(nu:Int)(ns:List Int)(af:ByteArray)(pr:ByteArray)(ma:ByteArray)(fr:ybh)(mx:Int)(u:Unit)(he:QB n (19,w,b,y,i,bo,tg,l,q,d,r,g,nu,ns,af,pr,ma,fr,mx,u)):yaf.f n ((19,w,b,y,i,bo,tg,l,q,d,r,g,nu,ns,af,pr,ma,fr,mx,u),(true,()))=some (((19,w,b,y,0,bo,tg,l,q,d,r,g,nu,ns,af,pr,ma,fr,mx,u),(true&&decide (i≥1),())),()):=by
 rw[yaf.e0]
 simp only[yaf.e1,yaf.e2,yaf.e3,yaf.e4,yaJ,Int.reduceBEq,bIf_t,bIf_f,bnd_s,s_may,ydo,ycE hn2 he.r,ycd hn2 he.g,s_key hn2 (h:=he.y),s_id hn2,yfr hn2,yfq hn2 (h:=he.tg),yfn hn2,yfi hn2,yfp hn2 (h:=he.pr),ydT,ya6 hn2 he.ma,ya6 hn2 he.af,ya6 hn2 he.fk,ya3 h3,key24 he.fk hn2]
theorem own_21 {n:Nat}(h3:300≤n)(hn2:n≤536870912)(w:ByteArray)(b:ByteArray)(y:ByteArray)(i:Int)(bo:List Int)(tg:List yaz)(l:yaZ)(q:Bool)(d:yaL)(r:List yau)(g:List yat)(nu:Int)(ns:List Int)(af:ByteArray)(pr:ByteArray)(ma:ByteArray)(fr:ybh)(mx:Int)(u:Unit)(he:QB n (21,w,b,y,i,bo,tg,l,q,d,r,g,nu,ns,af,pr,ma,fr,mx,u)):yaf.f n ((21,w,b,y,i,bo,tg,l,q,d,r,g,nu,ns,af,pr,ma,fr,mx,u),(true,()))=some (((21,w,b,y,i,bo,tg,l,q,d,r,g,nu,ns,af,pr,ma,fr,mx,u),(true,())),()):=by
 rw[yaf.e0]
 simp only[yaf.e1,yaf.e2,yaf.e3,yaf.e4,yaJ,Int.reduceBEq,bIf_t,bIf_f,bnd_s,s_may,ydo,ycE hn2 he.r,ycd hn2 he.g,s_key hn2 (h:=he.y),s_id hn2,yfr hn2,yfq hn2 (h:=he.tg),yfn hn2,yfi hn2,yfp hn2 (h:=he.pr),ydT,ya6 hn2 he.ma,ya6 hn2 he.af,ya6 hn2 he.fk,ya3 h3,key24 he.fk hn2]
theorem own_22 {n:Nat}(h3:300≤n)(hn2:n≤536870912)(w:ByteArray)(b:ByteArray)(y:ByteArray)(i:Int)(bo:List Int)(tg:List yaz)(l:yaZ)(q:Bool)(d:yaL)(r:List yau)(g:List yat)(nu:Int)(ns:List Int)(af:ByteArray)(pr:ByteArray)(ma:ByteArray)(fr:ybh)(mx:Int)(u:Unit)(he:QB n (22,w,b,y,i,bo,tg,l,q,d,r,g,nu,ns,af,pr,ma,fr,mx,u)):yaf.f n ((22,w,b,y,i,bo,tg,l,q,d,r,g,nu,ns,af,pr,ma,fr,mx,u),(true,()))=some (((22,w,b,y,i,bo,tg,l,q,d,r,g,nu,ns,af,pr,ma,fr,mx,u),(true,())),()):=by
 rw[yaf.e0]
 simp only[yaf.e1,yaf.e2,yaf.e3,yaf.e4,yaJ,Int.reduceBEq,bIf_t,bIf_f,bnd_s,s_may,ydo,ycE hn2 he.r,ycd hn2 he.g,s_key hn2 (h:=he.y),s_id hn2,yfr hn2,yfq hn2 (h:=he.tg),yfn hn2,yfi hn2,yfp hn2 (h:=he.pr),ydT,ya6 hn2 he.ma,ya6 hn2 he.af,ya6 hn2 he.fk,ya3 h3,key24 he.fk hn2]
theorem own_20 {n:Nat}(h3:300≤n)(hn2:n≤536870912)(w:ByteArray)(b:ByteArray)(y:ByteArray)(i:Int)(bo:List Int)(tg:List yaz)(l:yaZ)(q:Bool)(d:yaL)(r:List yau)(g:List yat)(nu:Int)(ns:List Int)(af:ByteArray)(pr:ByteArray)(ma:ByteArray)(fr:ybh)(mx:Int)(u:Unit)(he:QB n (20,w,b,y,i,bo,tg,l,q,d,r,g,nu,ns,af,pr,ma,fr,mx,u)):yaf.f n ((20,w,b,y,i,bo,tg,l,q,d,r,g,nu,ns,af,pr,ma,fr,mx,u),(true,()))=some (((20,w,b,(⟨#[]⟩:ByteArray),i,bo,tg,l,q,d,r,g,nu,ns,af,pr,ma,spotZ,mx,u),(true&&keyB y&&(ybB fr.1&&(keyB fr.2.1&&decide (fr.2.2.1≥1))),())),()):=by
 rw[yaf.e0]
 simp only[yaf.e1,yaf.e2,yaf.e3,yaf.e4,yaJ,Int.reduceBEq,bIf_t,bIf_f,bnd_s,s_may,s_key hn2 (h:=he.y),yfi hn2,ya3 h3,key24 he.fk hn2]
 cases ybB fr.1<;>cases keyB fr.2.1<;>simp only[bIf_t,bIf_f,Bool.true_and,Bool.false_and,Bool.and_false]
end Go.Proofs.YtdlkpmohjhjmfaaGreatDoor
namespace Go.Proofs.YtdlkpmohjhjmfaaGreatDoor
open Go Go.Va Go.Proofs
abbrev Row:Type:=ycF
abbrev RP:Type:=ybU
def noneB (v:Ver):Bool:=sameV v verZ
theorem wire_none {n:Nat}(hn2:n≤536870912){v:Ver}(h:(tags v).length<n):yd6.f n v=some (noneB v,()):=by
 rw[yd6.e0,sameV40 hn2 h,yab];rfl
def sameRw (a b:Row):Bool:=eqS a.1 b.1&&((a.2.1==b.2.1)&&((a.2.2.2.1==b.2.2.2.1)&&sameV a.2.2.1 b.2.2.1))
def RwB (n:Nat)(x:Row):Prop:=x.1.size<n∧VB n x.2.2.1
theorem wire_sameRow {n:Nat}(hn2:n≤536870912){a b:Row}(h:RwB n a):yek.f n a b=some (sameRw a b,()):=by
 rw[yek.e0,sameV40 hn2 h.2.tags.1]
 simp only[yaJ,bnd_s,yck];rfl
theorem eqRows {n:Nat}(hn:n≤536870912){a b:List Row}(hlen:a.length<n)(ha:∀ x∈a,RwB n x):ybu.f n a b=some (allB sameRw a b,()):=by
 rw[ybu.e0,yap,ne_len]
 by_cases h:a.length=b.length
 ·have:=zip_loop (Va.dflt ycs) sameRw (λm k=>ybu.J1 n m (b,a,((a.length:Nat):Int),k,())) h
   (λm k hk=>by
    try dsimp only
    rw[ybu.e1,yap,decide_eq_true (by omega),yaq,yar ⟨by omega,by omega⟩,yar ⟨by omega,by omega⟩,Int.toNat_natCast,wire_sameRow hn (ha _ (yc5 hk)),ybp k (by omega),yab]
    cases sameRw _ _<;>rfl)
   (λm=>by
    try dsimp only
    rw[ybu.e1,yap,decide_eq_false (by omega),yaj,ybu.e2]) n 0 (by omega) (by omega)
  try dsimp only at this
  rw[show ((0:Nat):Int)=0 from rfl]at this
  rw[decide_eq_true h,Bool.not_true,yaj,this];rfl
 ·rw[decide_eq_false h,Bool.not_false,yaq,yfu a b h]
theorem eqStrs {n:Nat}(hn:n≤536870912){a b:List ByteArray}(hlen:a.length<n):ybC.f n a b=some (allB eqS a b,()):=by
 rw[ybC.e0,yap,ne_len]
 by_cases h:a.length=b.length
 ·have:=zip_loop (⟨#[]⟩:ByteArray) eqS (λm k=>ybC.J1 n m (a,b,((a.length:Nat):Int),k,())) h
   (λm k hk=>by
    try dsimp only
    rw[ybC.e1,yap,decide_eq_true (by omega),yaq,yar ⟨by omega,by omega⟩,yar ⟨by omega,by omega⟩,Int.toNat_natCast,ybp k (by omega),yap]
    cases eqS _ _<;>rfl)
   (λm=>by
    try dsimp only
    rw[ybC.e1,yap,decide_eq_false (by omega),yaj,ybC.e2]) n 0 (by omega) (by omega)
  try dsimp only at this
  rw[show ((0:Nat):Int)=0 from rfl]at this
  rw[decide_eq_true h,Bool.not_true,yaj,this];rfl
 ·rw[decide_eq_false h,Bool.not_false,yaq,yfu a b h]
def sameN (x y:Int):Bool:=x==y
theorem eqInts {n:Nat}(hn:n≤536870912){a b:List Int}(hlen:a.length<n):ybb.f n a b=some (allB sameN a b,()):=by
 rw[ybb.e0,yap,ne_len]
 by_cases h:a.length=b.length
 ·have:=zip_loop (0:Int) sameN (λm k=>ybb.J1 n m (a,b,((a.length:Nat):Int),k,())) h
   (λm k hk=>by
    try dsimp only
    rw[ybb.e1,yap,decide_eq_true (by omega),yaq,yar ⟨by omega,by omega⟩,yar ⟨by omega,by omega⟩,Int.toNat_natCast,ybp k (by omega),yap,bne]
    unfold sameN
    generalize ((_:Int)==_)=z;cases z<;>rfl)
   (λm=>by
    try dsimp only
    rw[ybb.e1,yap,decide_eq_false (by omega),yaj,ybb.e2]) n 0 (by omega) (by omega)
  try dsimp only at this
  rw[show ((0:Nat):Int)=0 from rfl]at this
  rw[decide_eq_true h,Bool.not_true,yaj,this];rfl
 ·rw[decide_eq_false h,Bool.not_false,yaq,yfu a b h]
structure RB (n:Nat)(r:RP):Prop where
 body:r.2.2.1.length<n
 ver:VB n r.2.2.2.1
 rows:r.2.2.2.2.1.length<n
 row:∀ x∈r.2.2.2.2.1,RwB n x
 nums:r.2.2.2.2.2.2.1.length<n
 names:r.2.2.2.2.2.2.2.1.length<n
def alikeB (a b:RP):Bool:=(a.1==b.1)&&((a.2.1==b.2.1)&&((a.2.2.2.2.2.1==b.2.2.2.2.2.1)&&(eqS (yaT a.2.2.1) (yaT b.2.2.1)&&(sameV a.2.2.2.1 b.2.2.2.1&&(allB sameRw a.2.2.2.2.1 b.2.2.2.2.1&&(allB sameN a.2.2.2.2.2.2.1 b.2.2.2.2.2.2.1&&allB eqS a.2.2.2.2.2.2.2.1 b.2.2.2.2.2.2.2.1))))))
theorem wire_Alike {n:Nat}(hn2:n≤536870912){a b:RP}(ha:RB n a):ydY.f n a b=some (alikeB a b,()):=by
 rw[ydY.e0,ybn.e0,sameV40 hn2 ha.ver.tags.1,eqRows hn2 ha.rows ha.row,eqInts hn2 ha.nums,eqStrs hn2 ha.names]
 simp only[yaJ,bnd_s,yck]
 rfl
end Go.Proofs.YtdlkpmohjhjmfaaGreatDoor
namespace Go.Proofs.YtdlkpmohjhjmfaaGreatDoor
open Go Go.Va Go.Proofs
def rowB (x:Row):Bool:=decide (x.1.size≤200)&&(if x.2.1=true then !x.2.2.2.1&&noneB x.2.2.1 else verB x.2.2.1)
def notNeg (x:Int):Bool:=decide (0≤x)
def nameLen (s:ByteArray):Bool:=decide (s.size≤63)
abbrev errRP (e:Int):RP:=(e,(0,([],(verZ,([],(false,([],([],()))))))))
def fineRP (r:RP):Bool:=decide (r.2.2.1.length≤16384)&&((noneB r.2.2.2.1||verB r.2.2.2.1)&&(decide (r.2.2.2.2.1.length≤100)&&(decide (r.2.2.2.2.2.2.1.length≤8)&&(decide (r.2.2.2.2.2.2.2.1.length≤16)&&(r.2.2.2.2.1.all rowB&&(r.2.2.2.2.2.2.1.all notNeg&&r.2.2.2.2.2.2.2.1.all nameLen))))))
def goodRP (r:RP):Bool:=decide (0≤r.1)&&(decide (r.1≤18)&&if r.1=0 then fineRP r else alikeB r (errRP r.1))
theorem wire_goodRow {n:Nat}(hn2:n≤536870912){x:Row}(h:RwB n x):yej.f n x=some (rowB x,()):=by
 rw[yej.e0,wire_none hn2 h.2.tags.1,ver18 hn2 h.2]
 simp only[yaJ,bnd_s]
 have a1:decide ((x.1.size:Int)>200)=!decide (x.1.size≤200):=yeo (by omega)
 rw[a1]
 unfold rowB
 cases decide (x.1.size≤200)<;>cases x.2.1<;>cases x.2.2.2.1<;>cases noneB x.2.2.1<;>cases verB x.2.2.1<;>rfl
theorem has_rows {n:Nat}(hn2:n≤536870912){l:List Row}(hlen:l.length<n)(hl:∀ x∈l,RwB n x):yca.f n l=some (!l.all rowB,()):=by
 obtain⟨i,h1,h2⟩:=idx_loop (l:=l) (Va.dflt ycs) (λr=>!rowB r) (λm k=>ybR.J1 n m (l,((l.length:Nat):Int),k,()))
  (λm k hk=>by
   try dsimp only
   rw[ybR.e1,yap,decide_eq_true (by omega),yaq,yar ⟨by omega,by omega⟩,Int.toNat_natCast,yeR.e0,wire_goodRow hn2 (hl _ (yc5 hk)),ybp k (by omega)];rfl)
  (λm=>by
   try dsimp only
   rw[ybR.e1,yap,decide_eq_false (by omega),yaj,ybR.e2]) n 0 (by omega) (by omega)
 rw[yca.e0,ybR.e0]
 try dsimp only at h1
 rw[show ((0:Nat):Int)=0 from rfl]at h1
 rw[h1]
 simp only[yap,yab]
 rw[h2,List.drop_zero,← any_not,Bool.not_not]
theorem has_ints {n:Nat}(hn2:n≤536870912){l:List Int}(hlen:l.length<n):ycb.f n l=some (!l.all notNeg,()):=by
 obtain⟨i,h1,h2⟩:=idx_loop (l:=l) 0 (λr=>!notNeg r) (λm k=>ybQ.J1 n m (l,((l.length:Nat):Int),k,()))
  (λm k hk=>by
   try dsimp only
   have a1:∀ x:Int,decide (x<0)=!notNeg x:=λx=>yeo (by omega)
   rw[ybQ.e1,yap,decide_eq_true (by omega),yaq,yar ⟨by omega,by omega⟩,Int.toNat_natCast,yeV.e0,yap,a1,ybp k (by omega)];rfl)
  (λm=>by
   try dsimp only
   rw[ybQ.e1,yap,decide_eq_false (by omega),yaj,ybQ.e2]) n 0 (by omega) (by omega)
 rw[ycb.e0,ybQ.e0]
 try dsimp only at h1
 rw[show ((0:Nat):Int)=0 from rfl]at h1
 rw[h1]
 simp only[yap,yab]
 rw[h2,List.drop_zero,← any_not,Bool.not_not]
theorem has_strs {n:Nat}(hn2:n≤536870912){l:List ByteArray}(hlen:l.length<n):ybT.f n l=some (!l.all nameLen,()):=by
 obtain⟨i,h1,h2⟩:=idx_loop (l:=l) (⟨#[]⟩:ByteArray) (λr=>!nameLen r) (λm k=>ybv.J1 n m (l,((l.length:Nat):Int),k,()))
  (λm k hk=>by
   try dsimp only
   have a1:∀ x:ByteArray,decide ((x.size:Int)>63)=!nameLen x:=λx=>yeo (by omega)
   rw[ybv.e1,yap,decide_eq_true (by omega),yaq,yar ⟨by omega,by omega⟩,Int.toNat_natCast,yeN.e0,yap,a1,ybp k (by omega)];rfl)
  (λm=>by
   try dsimp only
   rw[ybv.e1,yap,decide_eq_false (by omega),yaj,ybv.e2]) n 0 (by omega) (by omega)
 rw[ybT.e0,ybv.e0]
 try dsimp only at h1
 rw[show ((0:Nat):Int)=0 from rfl]at h1
 rw[h1]
 simp only[yap,yab]
 rw[h2,List.drop_zero,← any_not,Bool.not_not]
theorem good_head (r:RP)(X Y:Option (Bool×Unit))(hX:r.1≠0→X=some (alikeB r (errRP r.1),()))(hY:r.1=0→Y=some (fineRP r,())) :
  bIf (decide (r.1<0)) (some (false,())) (bIf (decide (r.1>18)) (some (false,())) (bIf (r.1 != 0) X Y))=some (goodRP r,()):=by
 have a1:decide (r.1<0)=!decide (0≤r.1):=yeo (by omega)
 have a2:decide (r.1>18)=!decide (r.1≤18):=yeo (by omega)
 rw[a1,a2]
 unfold goodRP
 by_cases h:r.1=0
 ·rw[hY h,if_pos h,show (r.1 != 0)=false by rw[h];rfl]
  simp only[bIf_f,ycJ,Bool.not_not]
 ·rw[hX h,if_neg h,show (r.1 != 0)=true by rw[bne,beq_eq_false_iff_ne.2 h];rfl]
  simp only[bIf_t,ycJ,Bool.not_not]
theorem wire_good {n:Nat}(hn2:n≤536870912){r:RP}(ha:RB n r):yd5.f n r=some (goodRP r,()):=by
 rw[yd5.e0]
 simp only[yaJ,yd5.e1]
 refine good_head r _ _ (λh => ?_) (λh => ?_)
 ·change (bnd (ydY.f n r (errRP r.1)) _)=_
  rw[wire_Alike hn2 ha,yab]
 ·rw[wire_none hn2 ha.ver.tags.1,ver18 hn2 ha.ver]
  simp only[yd5.e2,yd5.e3,yaJ,bnd_s,has_rows hn2 ha.rows ha.row,has_ints hn2 ha.nums,has_strs hn2 ha.names]
  have a1:decide (((r.2.2.1.length:Nat):Int)>16384)=!decide (r.2.2.1.length≤16384):=yeo (by omega)
  have a2:decide (((r.2.2.2.2.1.length:Nat):Int)>100)=!decide (r.2.2.2.2.1.length≤100):=yeo (by omega)
  have a3:decide (((r.2.2.2.2.2.2.1.length:Nat):Int)>8)=!decide (r.2.2.2.2.2.2.1.length≤8):=yeo (by omega)
  have a4:decide (((r.2.2.2.2.2.2.2.1.length:Nat):Int)>16)=!decide (r.2.2.2.2.2.2.2.1.length≤16):=yeo (by omega)
  rw[a1,a2,a3,a4]
  unfold fineRP
  simp only[Bool.not_not,yck,ycJ]
  cases noneB r.2.2.2.1<;>cases verB r.2.2.2.1<;>simp only[Bool.not_true,Bool.not_false,bIf_t,bIf_f,ycJ,ydq,Bool.not_not,Bool.or_self,Bool.true_or,Bool.or_true,Bool.false_and,Bool.true_and,Bool.and_false,Bool.or_false,Bool.false_or]
end Go.Proofs.YtdlkpmohjhjmfaaGreatDoor
namespace Go.Proofs.YtdlkpmohjhjmfaaGreatDoor
open Go Go.Va Go.Proofs
def eRow (x:Row):List Int:=eT x.1++(eF x.2.1++if x.2.1=true then [] else eVer x.2.2.1++eF x.2.2.2.1)
def eRows (l:List Row):List Int:=eW ((l.length:Nat):Int)++l.flatMap eRow
def eInts (l:List Int):List Int:=eW ((l.length:Nat):Int)++l.flatMap eW
def eStrs (l:List ByteArray):List Int:=eW ((l.length:Nat):Int)++l.flatMap eT
def eOpt (v:Ver):List Int:=eF (!noneB v)++if noneB v=true then [] else eVer v
def encF (r:RP):List Int:=eN r.2.1++(eT (yaT r.2.2.1)++(eOpt r.2.2.2.1++(eRows r.2.2.2.2.1++(eF r.2.2.2.2.2.1++(eInts r.2.2.2.2.2.2.1++eStrs r.2.2.2.2.2.2.2.1)))))
def encRP (r:RP):List Int:=eW r.1++if r.1=0 then encF r else []
def tellS (r:RP):List Int×Int:=if goodRP r=true then (encRP r,0) else ([],2)
structure VI (n:Nat)(v:Ver):Prop where
 b:VB n v
 id:U64 v.1
 md:I64 (made v)
 bl:U64 (blob v)
 lk:I64 (lock v).2.1
 dy:BY (dig v)
structure RI (n:Nat)(r:RP):Prop where
 b:RB n r
 id:U64 r.2.1
 ver:VI n r.2.2.2.1
 row:∀ x∈r.2.2.2.2.1,x.1.size<n∧VI n x.2.2.1
 nums:∀ x∈r.2.2.2.2.2.2.1,I64 x
 body:BY r.2.2.1
theorem flat_le {α:Type}{f:α→List Int}{c k:Nat}{l:List α}(h:∀ x∈l,(f x).length≤c)(hk:l.length≤k):(l.flatMap f).length≤k*c:=Nat.le_trans (flat_len h) (Nat.mul_le_mul_right c hk)
theorem none_id {v:Ver}(h:(noneB v||verB v)=true):(v.1 != 0)=!noneB v:=by
 have h1:noneB v=true→v.1=0:=λh=>by
  unfold noneB sameV at h
  simp only[Bool.and_eq_true,beq_iff_eq]at h
  exact h.2.1
 have h2:verB v=true→v.1≠0:=λh=>by
  unfold verB at h
  rw[Bool.and_eq_true,decide_eq_true_iff]at h
  omega
 cases hn:noneB v
 ·rw[hn,Bool.false_or]at h
  rw[bne,beq_eq_false_iff_ne.2 (h2 h)]
 ·rw[h1 hn];rfl
structure Fine (r:RP):Prop where
 body:r.2.2.1.length≤16384
 ver:(noneB r.2.2.2.1||verB r.2.2.2.1)=true
 rows:r.2.2.2.2.1.length≤100
 nums:r.2.2.2.2.2.2.1.length≤8
 names:r.2.2.2.2.2.2.2.1.length≤16
 row:∀ x∈r.2.2.2.2.1,rowB x=true
 num:∀ x∈r.2.2.2.2.2.2.1,0≤x
 name:∀ x∈r.2.2.2.2.2.2.2.1,x.size≤63
theorem fine_of {r:RP}(h:fineRP r=true):Fine r:=by
 unfold fineRP at h
 simp only[Bool.and_eq_true,decide_eq_true_iff,List.all_eq_true]at h
 obtain⟨h1,h2,h3,h4,h5,h6,h7,h8⟩:=h
 exact⟨h1,h2,h3,h4,h5,h6,λx hx=>of_decide_eq_true (h7 x hx),λx hx=>of_decide_eq_true (h8 x hx)⟩
theorem good_fine {r:RP}(h:goodRP r=true)(h0:r.1=0):Fine r:=by
 unfold goodRP at h
 rw[if_pos h0]at h
 simp only[Bool.and_eq_true]at h
 exact fine_of h.2.2
theorem eOpt_len {n:Nat}{v:Ver}(h:(noneB v||verB v)=true)(hi:VI n v):(eOpt v).length≤1401:=by
 unfold eOpt
 rw[List.length_append,eF_len]
 cases hz:noneB v
 ·rw[hz,Bool.false_or]at h
  have:=eVer_len h hi.b.dig
  simp only[Bool.false_eq_true,if_false];omega
 ·simp only[if_true,List.length_nil];omega
theorem eRow_len {n:Nat}{x:Row}(h:rowB x=true)(hi:VI n x.2.2.1):(eRow x).length≤1700:=by
 unfold rowB at h
 unfold eRow
 have h3:=ycV x.1
 rw[List.length_append,List.length_append,eF_len]
 cases hz:x.2.1
 ·simp only[hz,Bool.and_eq_true,decide_eq_true_iff,Bool.false_eq_true,if_false]at h
  have:=eVer_len h.2 hi.b.dig
  simp only[Bool.false_eq_true,if_false,List.length_append,eF_len];omega
 ·simp only[hz,Bool.and_eq_true,decide_eq_true_iff]at h
  simp only[if_true,List.length_nil];omega
theorem encF_len {n:Nat}{r:RP}(h:Fine r)(hi:RI n r):(encF r).length≤200000:=by
 unfold encF eRows eInts eStrs
 simp only[List.length_append,eF_len]
 have h1:=ydH r.2.1
 have h2:=ycV (yaT r.2.2.1)
 rw[yah]at h2
 have h3:=eOpt_len h.ver hi.ver
 have h4:=flat_le (f:=eRow) (c:=1700) (λx hx=>eRow_len (h.row x hx) (hi.row x hx).2) h.rows
 have h5:=flat_le (f:=eW) (c:=10) (λx (hx:x∈r.2.2.2.2.2.2.1)=>ye5 x) h.nums
 have h6:=flat_le (f:=eT) (c:=73) (λx hx=>Nat.le_trans (ycV x) (by have:=h.name x hx;omega)) h.names
 have h7:=ye5 ((r.2.2.2.2.1.length:Nat):Int)
 have h8:=ye5 ((r.2.2.2.2.2.2.1.length:Nat):Int)
 have h9:=ye5 ((r.2.2.2.2.2.2.2.1.length:Nat):Int)
 have h0:=h.body
 omega
theorem wRows {n:Nat}(hn:300≤n)(w:List Int)(u:Unit){l:List Row}(hlen:l.length<n)(hl:∀ x∈l,x.1.size<n∧VI n x.2.2.1)(hn2:n≤536870912)(h:w.length+(eRows l).length≤70368744177664):ycy.f n (w,u) l=some ((w++eRows l,()),()):=by
 rw[ycy.e0]
 unfold eRows at h ⊢
 simp only[List.length_append]at h
 try dsimp only
 rw[wW hn w () (by omega),yab]
 try dsimp only
 have:=yeZ (l:=l) (Va.dflt ycs) eRow 70368744177664 (λm k L=>ycy.J1 n m (l,((l.length:Nat):Int),k,(((),()),()),(L,()),())) (λL=>some ((L,()),()))
  (λm k L hk hL=>by
   have hr:=(hl _ (yc5 (d:=Va.dflt ycs) hk)).2
   try dsimp only
   rw[ycy.e1,yap,decide_eq_true (by omega),yaq,yar ⟨by omega,by omega⟩,Int.toNat_natCast,ybp k (by omega)]
   generalize hx:l.getD k (Va.dflt ycs)=x at hr hL
   unfold eRow at hL ⊢
   try dsimp only
   simp only[List.length_append]at hL
   rw[wText hn _ () (by omega),yab]
   try dsimp only
   rw[wFlag _ () (by rw[List.length_append];omega),yab]
   try dsimp only
   cases hz:x.2.1
   ·rw[hz]at hL
    simp only[Bool.false_eq_true,if_false,List.length_append]at hL ⊢
    rw[Bool.not_false,yaq,wVer hn _ () hr.id hr.md hr.bl hr.lk hr.b.tags.1 hn2 (by simp only[List.length_append];omega),yab]
    try dsimp only
    rw[wFlag _ () (by simp only[List.length_append];omega),yab]
    simp only[List.append_assoc]
   ·rw[Bool.not_true,yaj]
    simp only[if_true,List.append_nil,List.append_assoc])
  (λm L hL=>by
   try dsimp only
   rw[ycy.e1,yap,decide_eq_false (by omega),yaj]) n 0 (w++eW ((l.length:Nat):Int)) (by omega) (by omega) (by rw[List.length_append,List.drop_zero];omega)
 try dsimp only at this
 rw[show ((0:Nat):Int)=0 from rfl]at this
 rw[this,List.drop_zero,List.append_assoc]
theorem wTail {n:Nat}(hn:300≤n)(hn2:n≤536870912)(w:List Int){r:RP}(hi:RI n r)(h:w.length+(eRows r.2.2.2.2.1++(eF r.2.2.2.2.2.1++(eInts r.2.2.2.2.2.2.1++eStrs r.2.2.2.2.2.2.2.1))).length≤70368744177664) :
  ycD.J1 n (r,(((),()),()),(w,()),())=some (w++(eRows r.2.2.2.2.1++(eF r.2.2.2.2.2.1++(eInts r.2.2.2.2.2.2.1++eStrs r.2.2.2.2.2.2.2.1))),0,()):=by
 have hl1:=hi.b.nums
 have hl2:=hi.b.names
 simp only[List.length_append]at h
 rw[ycD.e1]
 try dsimp only
 rw[wRows hn w () hi.b.rows hi.row hn2 (by omega),yab]
 try dsimp only
 rw[wFlag _ () (by rw[List.length_append];omega),yab]
 try dsimp only
 unfold eInts eStrs at h ⊢
 simp only[List.length_append]at h
 rw[wW hn _ () (by simp only[List.length_append];omega),yab]
 try dsimp only
 have h3:∀ L:List Int,L.length+((eW ((r.2.2.2.2.2.2.2.1.length:Nat):Int)).length+(r.2.2.2.2.2.2.2.1.flatMap eT).length)≤70368744177664→ycD.J3 n (r,(((),()),()),(L,()),())=some (L++(eW ((r.2.2.2.2.2.2.2.1.length:Nat):Int)++r.2.2.2.2.2.2.2.1.flatMap eT),0,()):=by
  intro L hL
  rw[ycD.e3]
  try dsimp only
  rw[wW hn _ () (by omega),yab]
  try dsimp only
  have:=yeZ (l:=r.2.2.2.2.2.2.2.1) (⟨#[]⟩:ByteArray) eT 70368744177664 (λm k L=>ycD.J4 n m (r.2.2.2.2.2.2.2.1,((r.2.2.2.2.2.2.2.1.length:Nat):Int),k,(((),()),()),(L,()),())) (λL=>some (L,0,()))
   (λm k L hk hL=>by
    try dsimp only
    rw[ycD.e4,yap,decide_eq_true (by omega),yaq,yar ⟨by omega,by omega⟩,Int.toNat_natCast,ybp k (by omega)]
    try dsimp only
    rw[wText hn _ () (by omega),yab])
   (λm L hL=>by
    try dsimp only
    rw[ycD.e4,yap,decide_eq_false (by omega),yaj,ycD.e5]
    try dsimp only
    rw[wOut () hL,yab]) n 0 (L++eW ((r.2.2.2.2.2.2.2.1.length:Nat):Int)) (by omega) (by omega) (by rw[List.length_append,List.drop_zero];omega)
  try dsimp only at this
  rw[show ((0:Nat):Int)=0 from rfl]at this
  rw[this,List.drop_zero,List.append_assoc]
 have:=yeZ (l:=r.2.2.2.2.2.2.1) 0 eW (70368744177664-((eW ((r.2.2.2.2.2.2.2.1.length:Nat):Int)).length+(r.2.2.2.2.2.2.2.1.flatMap eT).length)) (λm k L=>ycD.J2 n m (r.2.2.2.2.2.2.1,((r.2.2.2.2.2.2.1.length:Nat):Int),k,r,(((),()),()),(L,()),())) (λL=>some (L++(eW ((r.2.2.2.2.2.2.2.1.length:Nat):Int)++r.2.2.2.2.2.2.2.1.flatMap eT),0,()))
  (λm k L hk hL=>by
   try dsimp only
   rw[ycD.e2,yap,decide_eq_true (by omega),yaq,yar ⟨by omega,by omega⟩,Int.toNat_natCast,ybp k (by omega)]
   try dsimp only
   rw[wW hn _ () (by omega),yab])
  (λm L hL=>by
   try dsimp only
   rw[ycD.e2,yap,decide_eq_false (by omega),yaj]
   try dsimp only
   rw[h3 L (by omega)]) n 0 (w++eRows r.2.2.2.2.1++eF r.2.2.2.2.2.1++eW ((r.2.2.2.2.2.2.1.length:Nat):Int)) (by omega) (by omega) (by rw[List.drop_zero];simp only[List.length_append];omega)
 try dsimp only at this
 rw[show ((0:Nat):Int)=0 from rfl]at this
 rw[this,List.drop_zero]
 simp only[List.append_assoc]
theorem wire_Tell {n:Nat}(hn:300≤n)(hn2:n≤536870912){r:RP}(hi:RI n r):ycD.f n r=some ((tellS r).1,(tellS r).2,()):=by
 rw[ycD.e0,wire_good hn2 hi.b,yab]
 unfold tellS
 cases hg:goodRP r
 ·rfl
 ·rw[Bool.not_true,yaj,if_pos rfl,ybW.e0,yeJ.e0,yab,yab]
  try dsimp only
  have hw:=ye5 r.1
  rw[wW hn [] () (by rw[List.length_nil];omega),yab,yap]
  try dsimp only
  unfold encRP
  by_cases h0:r.1=0
  ·have hf:=good_fine hg h0
   have hl:=encF_len hf hi
   rw[if_pos h0,show (r.1 != 0)=false by rw[h0];rfl,yaj,yap,none_id hf.ver]
   unfold encF at hl ⊢
   generalize hT:eRows r.2.2.2.2.1++(eF r.2.2.2.2.2.1++(eInts r.2.2.2.2.2.2.1++eStrs r.2.2.2.2.2.2.2.1))=T at hl ⊢
   simp only[List.length_append]at hl
   rw[wNum hn _ () hi.id (by simp only[List.length_append,List.length_nil];omega),yab]
   try dsimp only
   rw[wText hn _ () (by simp only[List.length_append,List.length_nil];omega),yab]
   try dsimp only
   unfold eOpt at hl ⊢
   simp only[List.length_append]at hl
   rw[wFlag _ () (by simp only[List.length_append,List.length_nil];omega),yab]
   try dsimp only
   cases hz:noneB r.2.2.2.1
   ·rw[hz]at hl
    simp only[Bool.false_eq_true,if_false,Bool.not_false]at hl ⊢
    rw[yaq,wVer hn _ () hi.ver.id hi.ver.md hi.ver.bl hi.ver.lk hi.ver.b.tags.1 hn2 (by simp only[List.length_append,List.length_nil];omega),yab]
    try dsimp only
    rw[wTail hn hn2 _ hi (by rw[hT];simp only[List.length_append,List.length_nil];omega),hT]
    simp only[List.nil_append,List.append_assoc]
   ·rw[hz]at hl
    simp only[if_true,Bool.not_true]at hl ⊢
    rw[yaj,wTail hn hn2 _ hi (by rw[hT];simp only[List.length_append,List.length_nil];omega),hT]
    simp only[List.nil_append,List.append_nil,List.append_assoc]
  ·rw[if_neg h0,show (r.1 != 0)=true by rw[bne,beq_eq_false_iff_ne.2 h0];rfl,yaq,wOut () (by rw[List.nil_append];omega),yab,List.nil_append,List.append_nil]
end Go.Proofs.YtdlkpmohjhjmfaaGreatDoor
namespace Go.Proofs.YtdlkpmohjhjmfaaGreatDoor
open Go Go.Va Go.Proofs
theorem pl {a b:List Int}(h:a.length+b.length≤4611686018427387904){α:Type}(x:Option α):gIf ((yaT a).size+(yaT b).size≤4611686018427387904) x=x:=by
 rw[yah,yah,yar h]
end Go.Proofs.YtdlkpmohjhjmfaaGreatDoor
namespace Go.Proofs.YtdlkpmohjhjmfaaGreatDoor
open Go Go.Va Go.Proofs
variable (w:ByteArray) (b:ByteArray) (y:ByteArray) (i:Int) (bo:List Int) (tg:List yaz) (l:yaZ) (q:Bool) (d:yaL) (r:List yau) (g:List yat) (nu:Int) (ns:List Int) (af:ByteArray) (pr:ByteArray) (ma:ByteArray) (fr:ybh) (mx:Int) (u:Unit)
def hasQ (k:Int):ByteArray:=if k=1∨k=3 then ⟨#[100]⟩ else if k=7∨k=8 then ⟨#[107,105]⟩ else if k=4 then ⟨#[114]⟩ else if k=5 then ⟨#[103]⟩ else if k=6 then ⟨#[107,66,116,108]⟩ else if k=9 then ⟨#[107]⟩ else if k=10 then ⟨#[107,105,121]⟩ else if k=11 then ⟨#[107,105,108,121]⟩ else if k=12 then ⟨#[107,105,108]⟩ else if k=13 then ⟨#[107,105,116]⟩ else if k=14 then ⟨#[112,109,97,120]⟩ else if k=15 then ⟨#[112,102,120]⟩ else if k=16 then ⟨#[107,116]⟩ else if k=17 then ⟨#[105,110,66]⟩ else if k=18 then ⟨#[105,78]⟩ else if k=19 then ⟨#[105]⟩ else if k=20 then ⟨#[107,102]⟩ else ⟨#[46]⟩
def yeu (k:Int):Int:=if k=10∨k=17∨k=18∨k=19 then 1 else 0
def lockK (k:Int)(l:yaZ):Bool:=if k=11 then !l.2.2.1 else if k=12 then l.1==0 else true
def fromK (k:Int)(f:ybh):Bool:=if k=15 then eqS f.1 ⟨#[]⟩&&nameB f.2.1 else ybB f.1&&(keyB f.2.1&&decide (f.2.2.1≥1))
def goodQ (e:Q):Bool:=
 (decide (1≤e.1)&&decide (e.1≤22))&&(!decide (((e.2.1.size:Nat):Int)>64)&&(yd0 e.2.1&&((if 21≤e.1 then eqS e.2.2.1 ⟨#[]⟩ else ybB e.2.2.1)&&(fld (hasQ e.1) 107 (keyB e.2.2.2.1) (eqS e.2.2.2.1 ⟨#[]⟩)&&(fld (hasQ e.1) 105 (decide (e.2.2.2.2.1≥yeu e.1)) ((e.2.2.2.2.1==0))&&(fld (hasQ e.1) 66 (decide (((e.2.2.2.2.2.1.length:Nat):Int)≤1024)) ((((e.2.2.2.2.2.1.length:Nat):Int)==0))&&(fld (hasQ e.1) 116 (tagsB e.2.2.2.2.2.2.1) ((((e.2.2.2.2.2.2.1.length:Nat):Int)==0))&&(fld (hasQ e.1) 108 ((lockB e.2.2.2.2.2.2.2.1&&lockK e.1 e.2.2.2.2.2.2.2.1)) (eqD yaO e.2.2.2.2.2.2.2.1 lockZ)&&(fld (hasQ e.1) 121 (true) ((!e.2.2.2.2.2.2.2.2.1))&&(fld (hasQ e.1) 100 (modeB e.2.2.2.2.2.2.2.2.2.1) (eqD yaA e.2.2.2.2.2.2.2.2.2.1 (0,(0,())))&&(fld (hasQ e.1) 114 (rulesB e.2.2.2.2.2.2.2.2.2.2.1) ((((e.2.2.2.2.2.2.2.2.2.2.1.length:Nat):Int)==0))&&(fld (hasQ e.1) 103 (yeY e.2.2.2.2.2.2.2.2.2.2.2.1) ((((e.2.2.2.2.2.2.2.2.2.2.2.1.length:Nat):Int)==0))&&(fld (hasQ e.1) 110 ((decide (e.2.2.2.2.2.2.2.2.2.2.2.2.1≥1)&&decide (e.2.2.2.2.2.2.2.2.2.2.2.2.1≤10000))) ((e.2.2.2.2.2.2.2.2.2.2.2.2.1==0))&&(fld (hasQ e.1) 78 (decide (((e.2.2.2.2.2.2.2.2.2.2.2.2.2.1.length:Nat):Int)≤16)) ((((e.2.2.2.2.2.2.2.2.2.2.2.2.2.1.length:Nat):Int)==0))&&(fld (hasQ e.1) 97 (nameB e.2.2.2.2.2.2.2.2.2.2.2.2.2.2.1) (eqS e.2.2.2.2.2.2.2.2.2.2.2.2.2.2.1 ⟨#[]⟩)&&(fld (hasQ e.1) 112 (nameB e.2.2.2.2.2.2.2.2.2.2.2.2.2.2.2.1) (eqS e.2.2.2.2.2.2.2.2.2.2.2.2.2.2.2.1 ⟨#[]⟩)&&(fld (hasQ e.1) 109 (nameB e.2.2.2.2.2.2.2.2.2.2.2.2.2.2.2.2.1) (eqS e.2.2.2.2.2.2.2.2.2.2.2.2.2.2.2.2.1 ⟨#[]⟩)&&(fld (hasQ e.1) 102 (fromK e.1 e.2.2.2.2.2.2.2.2.2.2.2.2.2.2.2.2.2.1) (eqD ya0 e.2.2.2.2.2.2.2.2.2.2.2.2.2.2.2.2.2.1 spotZ)&&(fld (hasQ e.1) 120 ((decide (e.2.2.2.2.2.2.2.2.2.2.2.2.2.2.2.2.2.2.1≥1)&&decide (e.2.2.2.2.2.2.2.2.2.2.2.2.2.2.2.2.2.2.1≤100))) ((e.2.2.2.2.2.2.2.2.2.2.2.2.2.2.2.2.2.2.1==0)))))))))))))))))))))
theorem ydE (p:ybh):eqD ya0 p p=true:=by
 change ((p.1==p.1)&&((p.2.1==p.2.1)&&(decide (p.2.2.1=p.2.2.1)&&true)))=true
 simp[ba_beq]
theorem good_1 {n:Nat}(h3:300≤n)(hn2:n≤536870912)(he:QB n (1,w,b,y,i,bo,tg,l,q,d,r,g,nu,ns,af,pr,ma,fr,mx,u)):yaH.f n (1,w,b,y,i,bo,tg,l,q,d,r,g,nu,ns,af,pr,ma,fr,mx,u)=some (goodQ (1,w,b,y,i,bo,tg,l,q,d,r,g,nu,ns,af,pr,ma,fr,mx,u),()):=by
 have hw:w.size<n:=he.w
 rw[yaH.e0]
 simp only[yaH.e1,own_1 h3 hn2 w b y i bo tg l q d r g nu ns af pr ma fr mx u he,yfh,ydL (by omega) hw,yba.e0,ya3 h3,yaJ,bnd_s,Int.reduceBEq,bIf_t,bIf_f,yck]
 have hbn:=ycP b
 unfold goodQ
 simp (decide:=true) only [fld,decide_true,decide_false,show yeu 1=0 from rfl,show ∀ l,lockK 1 l=true from λ_=>rfl,show ∀ f,fromK 1 f=(ybB f.1&&(keyB f.2.1&&decide (f.2.2.1≥1))) from λ_=>rfl,if_true,if_false,Bool.false_eq_true,ybF,ydp,yec,ydE,beq_self_eq_true,Bool.true_and,Bool.and_true,Bool.not_false,List.length_nil,c00,show ((21:Int)≤1)=False from eq_false (by decide)]
 revert hbn
 generalize eqS y ⟨#[]⟩=x0,(i==0)=x1,(((bo.length:Nat):Int)==0)=x2,(((tg.length:Nat):Int)==0)=x3,eqD yaO l _=x4,(((r.length:Nat):Int)==0)=x6,(((g.length:Nat):Int)==0)=x7,(nu==0)=x8,(((ns.length:Nat):Int)==0)=x9,eqS af ⟨#[]⟩=x10,eqS pr ⟨#[]⟩=x11,eqS ma ⟨#[]⟩=x12,eqD ya0 fr _=x13,(mx==0)=x14,modeB d=x23,decide (((w.size:Nat):Int)>64)=x39,yd0 w=x40
 generalize eqS b ⟨#[]⟩=q1
 generalize ybB b=q2
 clear he hw
 intro hbn
 cases q1<;>cases q2<;>first | exact absurd (hbn rfl) (by decide) | (simp only[Bool.not_false,Bool.not_true,bIf_t,bIf_f,ycJ,Bool.true_and,Bool.false_and,Bool.and_false,beq_true,beq_false,Bool.not_not,ydq,Bool.and_true];first | done | simp only[Bool.and_comm,Bool.and_left_comm,Bool.and_assoc])
theorem good_2 {n:Nat}(h3:300≤n)(hn2:n≤536870912)(he:QB n (2,w,b,y,i,bo,tg,l,q,d,r,g,nu,ns,af,pr,ma,fr,mx,u)):yaH.f n (2,w,b,y,i,bo,tg,l,q,d,r,g,nu,ns,af,pr,ma,fr,mx,u)=some (goodQ (2,w,b,y,i,bo,tg,l,q,d,r,g,nu,ns,af,pr,ma,fr,mx,u),()):=by
 have hw:w.size<n:=he.w
 rw[yaH.e0]
 simp only[yaH.e1,own_2 h3 hn2 w b y i bo tg l q d r g nu ns af pr ma fr mx u he,yfh,ydL (by omega) hw,yba.e0,ya3 h3,yaJ,bnd_s,Int.reduceBEq,bIf_t,bIf_f,yck]
 have hbn:=ycP b
 unfold goodQ
 simp (decide:=true) only [fld,decide_true,decide_false,show yeu 2=0 from rfl,show ∀ l,lockK 2 l=true from λ_=>rfl,show ∀ f,fromK 2 f=(ybB f.1&&(keyB f.2.1&&decide (f.2.2.1≥1))) from λ_=>rfl,if_true,if_false,Bool.false_eq_true,ybF,ydp,yec,ydE,beq_self_eq_true,Bool.true_and,Bool.and_true,Bool.not_false,List.length_nil,c00,show ((21:Int)≤2)=False from eq_false (by decide)]
 revert hbn
 generalize eqS y ⟨#[]⟩=x0,(i==0)=x1,(((bo.length:Nat):Int)==0)=x2,(((tg.length:Nat):Int)==0)=x3,eqD yaO l _=x4,eqD yaA d _=x5,(((r.length:Nat):Int)==0)=x6,(((g.length:Nat):Int)==0)=x7,(nu==0)=x8,(((ns.length:Nat):Int)==0)=x9,eqS af ⟨#[]⟩=x10,eqS pr ⟨#[]⟩=x11,eqS ma ⟨#[]⟩=x12,eqD ya0 fr _=x13,(mx==0)=x14,decide (((w.size:Nat):Int)>64)=x39,yd0 w=x40
 generalize eqS b ⟨#[]⟩=q1
 generalize ybB b=q2
 clear he hw
 intro hbn
 cases q1<;>cases q2<;>first | exact absurd (hbn rfl) (by decide) | (simp only[Bool.not_false,Bool.not_true,bIf_t,bIf_f,ycJ,Bool.true_and,Bool.false_and,Bool.and_false,beq_true,beq_false,Bool.not_not,ydq,Bool.and_true];first | done | simp only[Bool.and_comm,Bool.and_left_comm,Bool.and_assoc])
theorem good_3 {n:Nat}(h3:300≤n)(hn2:n≤536870912)(he:QB n (3,w,b,y,i,bo,tg,l,q,d,r,g,nu,ns,af,pr,ma,fr,mx,u)):yaH.f n (3,w,b,y,i,bo,tg,l,q,d,r,g,nu,ns,af,pr,ma,fr,mx,u)=some (goodQ (3,w,b,y,i,bo,tg,l,q,d,r,g,nu,ns,af,pr,ma,fr,mx,u),()):=by
 have hw:w.size<n:=he.w
 rw[yaH.e0]
 simp only[yaH.e1,own_3 h3 hn2 w b y i bo tg l q d r g nu ns af pr ma fr mx u he,yfh,ydL (by omega) hw,yba.e0,ya3 h3,yaJ,bnd_s,Int.reduceBEq,bIf_t,bIf_f,yck]
 have hbn:=ycP b
 unfold goodQ
 simp (decide:=true) only [fld,decide_true,decide_false,show yeu 3=0 from rfl,show ∀ l,lockK 3 l=true from λ_=>rfl,show ∀ f,fromK 3 f=(ybB f.1&&(keyB f.2.1&&decide (f.2.2.1≥1))) from λ_=>rfl,if_true,if_false,Bool.false_eq_true,ybF,ydp,yec,ydE,beq_self_eq_true,Bool.true_and,Bool.and_true,Bool.not_false,List.length_nil,c00,show ((21:Int)≤3)=False from eq_false (by decide)]
 revert hbn
 generalize eqS y ⟨#[]⟩=x0,(i==0)=x1,(((bo.length:Nat):Int)==0)=x2,(((tg.length:Nat):Int)==0)=x3,eqD yaO l _=x4,(((r.length:Nat):Int)==0)=x6,(((g.length:Nat):Int)==0)=x7,(nu==0)=x8,(((ns.length:Nat):Int)==0)=x9,eqS af ⟨#[]⟩=x10,eqS pr ⟨#[]⟩=x11,eqS ma ⟨#[]⟩=x12,eqD ya0 fr _=x13,(mx==0)=x14,modeB d=x23,decide (((w.size:Nat):Int)>64)=x39,yd0 w=x40
 generalize eqS b ⟨#[]⟩=q1
 generalize ybB b=q2
 clear he hw
 intro hbn
 cases q1<;>cases q2<;>first | exact absurd (hbn rfl) (by decide) | (simp only[Bool.not_false,Bool.not_true,bIf_t,bIf_f,ycJ,Bool.true_and,Bool.false_and,Bool.and_false,beq_true,beq_false,Bool.not_not,ydq,Bool.and_true];first | done | simp only[Bool.and_comm,Bool.and_left_comm,Bool.and_assoc])
theorem good_4 {n:Nat}(h3:300≤n)(hn2:n≤536870912)(he:QB n (4,w,b,y,i,bo,tg,l,q,d,r,g,nu,ns,af,pr,ma,fr,mx,u)):yaH.f n (4,w,b,y,i,bo,tg,l,q,d,r,g,nu,ns,af,pr,ma,fr,mx,u)=some (goodQ (4,w,b,y,i,bo,tg,l,q,d,r,g,nu,ns,af,pr,ma,fr,mx,u),()):=by
 have hw:w.size<n:=he.w
 rw[yaH.e0]
 simp only[yaH.e1,own_4 h3 hn2 w b y i bo tg l q d r g nu ns af pr ma fr mx u he,yfh,ydL (by omega) hw,yba.e0,ya3 h3,yaJ,bnd_s,Int.reduceBEq,bIf_t,bIf_f,yck]
 have hbn:=ycP b
 unfold goodQ
 simp (decide:=true) only [fld,decide_true,decide_false,show yeu 4=0 from rfl,show ∀ l,lockK 4 l=true from λ_=>rfl,show ∀ f,fromK 4 f=(ybB f.1&&(keyB f.2.1&&decide (f.2.2.1≥1))) from λ_=>rfl,if_true,if_false,Bool.false_eq_true,ybF,ydp,yec,ydE,beq_self_eq_true,Bool.true_and,Bool.and_true,Bool.not_false,List.length_nil,c00,show ((21:Int)≤4)=False from eq_false (by decide)]
 revert hbn
 generalize eqS y ⟨#[]⟩=x0,(i==0)=x1,(((bo.length:Nat):Int)==0)=x2,(((tg.length:Nat):Int)==0)=x3,eqD yaO l _=x4,eqD yaA d _=x5,(((g.length:Nat):Int)==0)=x7,(nu==0)=x8,(((ns.length:Nat):Int)==0)=x9,eqS af ⟨#[]⟩=x10,eqS pr ⟨#[]⟩=x11,eqS ma ⟨#[]⟩=x12,eqD ya0 fr _=x13,(mx==0)=x14,rulesB r=x24,decide (((w.size:Nat):Int)>64)=x39,yd0 w=x40
 generalize eqS b ⟨#[]⟩=q1
 generalize ybB b=q2
 clear he hw
 intro hbn
 cases q1<;>cases q2<;>first | exact absurd (hbn rfl) (by decide) | (simp only[Bool.not_false,Bool.not_true,bIf_t,bIf_f,ycJ,Bool.true_and,Bool.false_and,Bool.and_false,beq_true,beq_false,Bool.not_not,ydq,Bool.and_true];first | done | simp only[Bool.and_comm,Bool.and_left_comm,Bool.and_assoc])
theorem good_5 {n:Nat}(h3:300≤n)(hn2:n≤536870912)(he:QB n (5,w,b,y,i,bo,tg,l,q,d,r,g,nu,ns,af,pr,ma,fr,mx,u)):yaH.f n (5,w,b,y,i,bo,tg,l,q,d,r,g,nu,ns,af,pr,ma,fr,mx,u)=some (goodQ (5,w,b,y,i,bo,tg,l,q,d,r,g,nu,ns,af,pr,ma,fr,mx,u),()):=by
 have hw:w.size<n:=he.w
 rw[yaH.e0]
 simp only[yaH.e1,own_5 h3 hn2 w b y i bo tg l q d r g nu ns af pr ma fr mx u he,yfh,ydL (by omega) hw,yba.e0,ya3 h3,yaJ,bnd_s,Int.reduceBEq,bIf_t,bIf_f,yck]
 have hbn:=ycP b
 unfold goodQ
 simp (decide:=true) only [fld,decide_true,decide_false,show yeu 5=0 from rfl,show ∀ l,lockK 5 l=true from λ_=>rfl,show ∀ f,fromK 5 f=(ybB f.1&&(keyB f.2.1&&decide (f.2.2.1≥1))) from λ_=>rfl,if_true,if_false,Bool.false_eq_true,ybF,ydp,yec,ydE,beq_self_eq_true,Bool.true_and,Bool.and_true,Bool.not_false,List.length_nil,c00,show ((21:Int)≤5)=False from eq_false (by decide)]
 revert hbn
 generalize eqS y ⟨#[]⟩=x0,(i==0)=x1,(((bo.length:Nat):Int)==0)=x2,(((tg.length:Nat):Int)==0)=x3,eqD yaO l _=x4,eqD yaA d _=x5,(((r.length:Nat):Int)==0)=x6,(nu==0)=x8,(((ns.length:Nat):Int)==0)=x9,eqS af ⟨#[]⟩=x10,eqS pr ⟨#[]⟩=x11,eqS ma ⟨#[]⟩=x12,eqD ya0 fr _=x13,(mx==0)=x14,yeY g=x25,decide (((w.size:Nat):Int)>64)=x39,yd0 w=x40
 generalize eqS b ⟨#[]⟩=q1
 generalize ybB b=q2
 clear he hw
 intro hbn
 cases q1<;>cases q2<;>first | exact absurd (hbn rfl) (by decide) | (simp only[Bool.not_false,Bool.not_true,bIf_t,bIf_f,ycJ,Bool.true_and,Bool.false_and,Bool.and_false,beq_true,beq_false,Bool.not_not,ydq,Bool.and_true];first | done | simp only[Bool.and_comm,Bool.and_left_comm,Bool.and_assoc])
theorem good_6 {n:Nat}(h3:300≤n)(hn2:n≤536870912)(he:QB n (6,w,b,y,i,bo,tg,l,q,d,r,g,nu,ns,af,pr,ma,fr,mx,u)):yaH.f n (6,w,b,y,i,bo,tg,l,q,d,r,g,nu,ns,af,pr,ma,fr,mx,u)=some (goodQ (6,w,b,y,i,bo,tg,l,q,d,r,g,nu,ns,af,pr,ma,fr,mx,u),()):=by
 have hw:w.size<n:=he.w
 rw[yaH.e0]
 simp only[yaH.e1,own_6 h3 hn2 w b y i bo tg l q d r g nu ns af pr ma fr mx u he,yfh,ydL (by omega) hw,yba.e0,ya3 h3,yaJ,bnd_s,Int.reduceBEq,bIf_t,bIf_f,yck]
 have hbn:=ycP b
 unfold goodQ
 simp (decide:=true) only [fld,decide_true,decide_false,show yeu 6=0 from rfl,show ∀ l,lockK 6 l=true from λ_=>rfl,show ∀ f,fromK 6 f=(ybB f.1&&(keyB f.2.1&&decide (f.2.2.1≥1))) from λ_=>rfl,if_true,if_false,Bool.false_eq_true,ybF,ydp,yec,ydE,beq_self_eq_true,Bool.true_and,Bool.and_true,Bool.not_false,List.length_nil,c00,show ((21:Int)≤6)=False from eq_false (by decide)]
 revert hbn
 generalize (i==0)=x1,eqD yaA d _=x5,(((r.length:Nat):Int)==0)=x6,(((g.length:Nat):Int)==0)=x7,(nu==0)=x8,(((ns.length:Nat):Int)==0)=x9,eqS af ⟨#[]⟩=x10,eqS pr ⟨#[]⟩=x11,eqS ma ⟨#[]⟩=x12,eqD ya0 fr _=x13,(mx==0)=x14,keyB y=x15,decide (((bo.length:Nat):Int)≤1024)=x18,tagsB tg=x19,lockB l=x20,decide (((w.size:Nat):Int)>64)=x39,yd0 w=x40
 generalize eqS b ⟨#[]⟩=q1
 generalize ybB b=q2
 clear he hw
 intro hbn
 cases q1<;>cases q2<;>first | exact absurd (hbn rfl) (by decide) | (simp only[Bool.not_false,Bool.not_true,bIf_t,bIf_f,ycJ,Bool.true_and,Bool.false_and,Bool.and_false,beq_true,beq_false,Bool.not_not,ydq,Bool.and_true];first | done | simp only[Bool.and_comm,Bool.and_left_comm,Bool.and_assoc])
theorem good_7 {n:Nat}(h3:300≤n)(hn2:n≤536870912)(he:QB n (7,w,b,y,i,bo,tg,l,q,d,r,g,nu,ns,af,pr,ma,fr,mx,u)):yaH.f n (7,w,b,y,i,bo,tg,l,q,d,r,g,nu,ns,af,pr,ma,fr,mx,u)=some (goodQ (7,w,b,y,i,bo,tg,l,q,d,r,g,nu,ns,af,pr,ma,fr,mx,u),()):=by
 have hw:w.size<n:=he.w
 rw[yaH.e0]
 simp only[yaH.e1,own_7 h3 hn2 w b y i bo tg l q d r g nu ns af pr ma fr mx u he,yfh,ydL (by omega) hw,yba.e0,ya3 h3,yaJ,bnd_s,Int.reduceBEq,bIf_t,bIf_f,yck]
 have hbn:=ycP b
 unfold goodQ
 simp (decide:=true) only [fld,decide_true,decide_false,show yeu 7=0 from rfl,show ∀ l,lockK 7 l=true from λ_=>rfl,show ∀ f,fromK 7 f=(ybB f.1&&(keyB f.2.1&&decide (f.2.2.1≥1))) from λ_=>rfl,if_true,if_false,Bool.false_eq_true,ybF,ydp,yec,ydE,beq_self_eq_true,Bool.true_and,Bool.and_true,Bool.not_false,List.length_nil,c00,show ((21:Int)≤7)=False from eq_false (by decide)]
 revert hbn
 generalize (((bo.length:Nat):Int)==0)=x2,(((tg.length:Nat):Int)==0)=x3,eqD yaO l _=x4,eqD yaA d _=x5,(((r.length:Nat):Int)==0)=x6,(((g.length:Nat):Int)==0)=x7,(nu==0)=x8,(((ns.length:Nat):Int)==0)=x9,eqS af ⟨#[]⟩=x10,eqS pr ⟨#[]⟩=x11,eqS ma ⟨#[]⟩=x12,eqD ya0 fr _=x13,(mx==0)=x14,keyB y=x15,decide (i≥0)=x16,decide (((w.size:Nat):Int)>64)=x39,yd0 w=x40
 generalize eqS b ⟨#[]⟩=q1
 generalize ybB b=q2
 clear he hw
 intro hbn
 cases q1<;>cases q2<;>first | exact absurd (hbn rfl) (by decide) | (simp only[Bool.not_false,Bool.not_true,bIf_t,bIf_f,ycJ,Bool.true_and,Bool.false_and,Bool.and_false,beq_true,beq_false,Bool.not_not,ydq,Bool.and_true];first | done | simp only[Bool.and_comm,Bool.and_left_comm,Bool.and_assoc])
theorem good_8 {n:Nat}(h3:300≤n)(hn2:n≤536870912)(he:QB n (8,w,b,y,i,bo,tg,l,q,d,r,g,nu,ns,af,pr,ma,fr,mx,u)):yaH.f n (8,w,b,y,i,bo,tg,l,q,d,r,g,nu,ns,af,pr,ma,fr,mx,u)=some (goodQ (8,w,b,y,i,bo,tg,l,q,d,r,g,nu,ns,af,pr,ma,fr,mx,u),()):=by
 have hw:w.size<n:=he.w
 rw[yaH.e0]
 simp only[yaH.e1,own_8 h3 hn2 w b y i bo tg l q d r g nu ns af pr ma fr mx u he,yfh,ydL (by omega) hw,yba.e0,ya3 h3,yaJ,bnd_s,Int.reduceBEq,bIf_t,bIf_f,yck]
 have hbn:=ycP b
 unfold goodQ
 simp (decide:=true) only [fld,decide_true,decide_false,show yeu 8=0 from rfl,show ∀ l,lockK 8 l=true from λ_=>rfl,show ∀ f,fromK 8 f=(ybB f.1&&(keyB f.2.1&&decide (f.2.2.1≥1))) from λ_=>rfl,if_true,if_false,Bool.false_eq_true,ybF,ydp,yec,ydE,beq_self_eq_true,Bool.true_and,Bool.and_true,Bool.not_false,List.length_nil,c00,show ((21:Int)≤8)=False from eq_false (by decide)]
 revert hbn
 generalize (((bo.length:Nat):Int)==0)=x2,(((tg.length:Nat):Int)==0)=x3,eqD yaO l _=x4,eqD yaA d _=x5,(((r.length:Nat):Int)==0)=x6,(((g.length:Nat):Int)==0)=x7,(nu==0)=x8,(((ns.length:Nat):Int)==0)=x9,eqS af ⟨#[]⟩=x10,eqS pr ⟨#[]⟩=x11,eqS ma ⟨#[]⟩=x12,eqD ya0 fr _=x13,(mx==0)=x14,keyB y=x15,decide (i≥0)=x16,decide (((w.size:Nat):Int)>64)=x39,yd0 w=x40
 generalize eqS b ⟨#[]⟩=q1
 generalize ybB b=q2
 clear he hw
 intro hbn
 cases q1<;>cases q2<;>first | exact absurd (hbn rfl) (by decide) | (simp only[Bool.not_false,Bool.not_true,bIf_t,bIf_f,ycJ,Bool.true_and,Bool.false_and,Bool.and_false,beq_true,beq_false,Bool.not_not,ydq,Bool.and_true];first | done | simp only[Bool.and_comm,Bool.and_left_comm,Bool.and_assoc])
theorem good_9 {n:Nat}(h3:300≤n)(hn2:n≤536870912)(he:QB n (9,w,b,y,i,bo,tg,l,q,d,r,g,nu,ns,af,pr,ma,fr,mx,u)):yaH.f n (9,w,b,y,i,bo,tg,l,q,d,r,g,nu,ns,af,pr,ma,fr,mx,u)=some (goodQ (9,w,b,y,i,bo,tg,l,q,d,r,g,nu,ns,af,pr,ma,fr,mx,u),()):=by
 have hw:w.size<n:=he.w
 rw[yaH.e0]
 simp only[yaH.e1,own_9 h3 hn2 w b y i bo tg l q d r g nu ns af pr ma fr mx u he,yfh,ydL (by omega) hw,yba.e0,ya3 h3,yaJ,bnd_s,Int.reduceBEq,bIf_t,bIf_f,yck]
 have hbn:=ycP b
 unfold goodQ
 simp (decide:=true) only [fld,decide_true,decide_false,show yeu 9=0 from rfl,show ∀ l,lockK 9 l=true from λ_=>rfl,show ∀ f,fromK 9 f=(ybB f.1&&(keyB f.2.1&&decide (f.2.2.1≥1))) from λ_=>rfl,if_true,if_false,Bool.false_eq_true,ybF,ydp,yec,ydE,beq_self_eq_true,Bool.true_and,Bool.and_true,Bool.not_false,List.length_nil,c00,show ((21:Int)≤9)=False from eq_false (by decide)]
 revert hbn
 generalize (i==0)=x1,(((bo.length:Nat):Int)==0)=x2,(((tg.length:Nat):Int)==0)=x3,eqD yaO l _=x4,eqD yaA d _=x5,(((r.length:Nat):Int)==0)=x6,(((g.length:Nat):Int)==0)=x7,(nu==0)=x8,(((ns.length:Nat):Int)==0)=x9,eqS af ⟨#[]⟩=x10,eqS pr ⟨#[]⟩=x11,eqS ma ⟨#[]⟩=x12,eqD ya0 fr _=x13,(mx==0)=x14,keyB y=x15,decide (((w.size:Nat):Int)>64)=x39,yd0 w=x40
 generalize eqS b ⟨#[]⟩=q1
 generalize ybB b=q2
 clear he hw
 intro hbn
 cases q1<;>cases q2<;>first | exact absurd (hbn rfl) (by decide) | (simp only[Bool.not_false,Bool.not_true,bIf_t,bIf_f,ycJ,Bool.true_and,Bool.false_and,Bool.and_false,beq_true,beq_false,Bool.not_not,ydq,Bool.and_true];first | done | simp only[Bool.and_comm,Bool.and_left_comm,Bool.and_assoc])
theorem good_10 {n:Nat}(h3:300≤n)(hn2:n≤536870912)(he:QB n (10,w,b,y,i,bo,tg,l,q,d,r,g,nu,ns,af,pr,ma,fr,mx,u)):yaH.f n (10,w,b,y,i,bo,tg,l,q,d,r,g,nu,ns,af,pr,ma,fr,mx,u)=some (goodQ (10,w,b,y,i,bo,tg,l,q,d,r,g,nu,ns,af,pr,ma,fr,mx,u),()):=by
 have hw:w.size<n:=he.w
 rw[yaH.e0]
 simp only[yaH.e1,own_10 h3 hn2 w b y i bo tg l q d r g nu ns af pr ma fr mx u he,yfh,ydL (by omega) hw,yba.e0,ya3 h3,yaJ,bnd_s,Int.reduceBEq,bIf_t,bIf_f,yck]
 have hbn:=ycP b
 unfold goodQ
 simp (decide:=true) only [fld,decide_true,decide_false,show yeu 10=1 from rfl,show ∀ l,lockK 10 l=true from λ_=>rfl,show ∀ f,fromK 10 f=(ybB f.1&&(keyB f.2.1&&decide (f.2.2.1≥1))) from λ_=>rfl,if_true,if_false,Bool.false_eq_true,ybF,ydp,yec,ydE,beq_self_eq_true,Bool.true_and,Bool.and_true,Bool.not_false,List.length_nil,c00,show ((21:Int)≤10)=False from eq_false (by decide)]
 revert hbn
 generalize (((bo.length:Nat):Int)==0)=x2,(((tg.length:Nat):Int)==0)=x3,eqD yaO l _=x4,eqD yaA d _=x5,(((r.length:Nat):Int)==0)=x6,(((g.length:Nat):Int)==0)=x7,(nu==0)=x8,(((ns.length:Nat):Int)==0)=x9,eqS af ⟨#[]⟩=x10,eqS pr ⟨#[]⟩=x11,eqS ma ⟨#[]⟩=x12,eqD ya0 fr _=x13,(mx==0)=x14,keyB y=x15,decide (i≥1)=x17,decide (((w.size:Nat):Int)>64)=x39,yd0 w=x40
 generalize eqS b ⟨#[]⟩=q1
 generalize ybB b=q2
 clear he hw
 intro hbn
 cases q1<;>cases q2<;>first | exact absurd (hbn rfl) (by decide) | (simp only[Bool.not_false,Bool.not_true,bIf_t,bIf_f,ycJ,Bool.true_and,Bool.false_and,Bool.and_false,beq_true,beq_false,Bool.not_not,ydq,Bool.and_true];first | done | simp only[Bool.and_comm,Bool.and_left_comm,Bool.and_assoc])
theorem good_11 {n:Nat}(h3:300≤n)(hn2:n≤536870912)(he:QB n (11,w,b,y,i,bo,tg,l,q,d,r,g,nu,ns,af,pr,ma,fr,mx,u)):yaH.f n (11,w,b,y,i,bo,tg,l,q,d,r,g,nu,ns,af,pr,ma,fr,mx,u)=some (goodQ (11,w,b,y,i,bo,tg,l,q,d,r,g,nu,ns,af,pr,ma,fr,mx,u),()):=by
 have hw:w.size<n:=he.w
 rw[yaH.e0]
 simp only[yaH.e1,own_11 h3 hn2 w b y i bo tg l q d r g nu ns af pr ma fr mx u he,yfh,ydL (by omega) hw,yba.e0,ya3 h3,yaJ,bnd_s,Int.reduceBEq,bIf_t,bIf_f,yck]
 have hbn:=ycP b
 unfold goodQ
 simp (decide:=true) only [fld,decide_true,decide_false,show yeu 11=0 from rfl,show ∀ l,lockK 11 l=!l.2.2.1 from λ_=>rfl,show ∀ f,fromK 11 f=(ybB f.1&&(keyB f.2.1&&decide (f.2.2.1≥1))) from λ_=>rfl,if_true,if_false,Bool.false_eq_true,ybF,ydp,yec,ydE,beq_self_eq_true,Bool.true_and,Bool.and_true,Bool.not_false,List.length_nil,c00,show ((21:Int)≤11)=False from eq_false (by decide)]
 revert hbn
 generalize (((bo.length:Nat):Int)==0)=x2,(((tg.length:Nat):Int)==0)=x3,eqD yaA d _=x5,(((r.length:Nat):Int)==0)=x6,(((g.length:Nat):Int)==0)=x7,(nu==0)=x8,(((ns.length:Nat):Int)==0)=x9,eqS af ⟨#[]⟩=x10,eqS pr ⟨#[]⟩=x11,eqS ma ⟨#[]⟩=x12,eqD ya0 fr _=x13,(mx==0)=x14,keyB y=x15,decide (i≥0)=x16,lockB l=x20,l.2.2.1=x21,decide (((w.size:Nat):Int)>64)=x39,yd0 w=x40
 generalize eqS b ⟨#[]⟩=q1
 generalize ybB b=q2
 clear he hw
 intro hbn
 cases q1<;>cases q2<;>first | exact absurd (hbn rfl) (by decide) | (simp only[Bool.not_false,Bool.not_true,bIf_t,bIf_f,ycJ,Bool.true_and,Bool.false_and,Bool.and_false,beq_true,beq_false,Bool.not_not,ydq,Bool.and_true];first | done | simp only[Bool.and_comm,Bool.and_left_comm,Bool.and_assoc])
theorem good_12 {n:Nat}(h3:300≤n)(hn2:n≤536870912)(he:QB n (12,w,b,y,i,bo,tg,l,q,d,r,g,nu,ns,af,pr,ma,fr,mx,u)):yaH.f n (12,w,b,y,i,bo,tg,l,q,d,r,g,nu,ns,af,pr,ma,fr,mx,u)=some (goodQ (12,w,b,y,i,bo,tg,l,q,d,r,g,nu,ns,af,pr,ma,fr,mx,u),()):=by
 have hw:w.size<n:=he.w
 rw[yaH.e0]
 simp only[yaH.e1,own_12 h3 hn2 w b y i bo tg l q d r g nu ns af pr ma fr mx u he,yfh,ydL (by omega) hw,yba.e0,ya3 h3,yaJ,bnd_s,Int.reduceBEq,bIf_t,bIf_f,yck]
 have hbn:=ycP b
 unfold goodQ
 simp (decide:=true) only [fld,decide_true,decide_false,show yeu 12=0 from rfl,show ∀ l,lockK 12 l=(l.1==0) from λ_=>rfl,show ∀ f,fromK 12 f=(ybB f.1&&(keyB f.2.1&&decide (f.2.2.1≥1))) from λ_=>rfl,if_true,if_false,Bool.false_eq_true,ybF,ydp,yec,ydE,beq_self_eq_true,Bool.true_and,Bool.and_true,Bool.not_false,List.length_nil,c00,show ((21:Int)≤12)=False from eq_false (by decide)]
 revert hbn
 generalize (((bo.length:Nat):Int)==0)=x2,(((tg.length:Nat):Int)==0)=x3,eqD yaA d _=x5,(((r.length:Nat):Int)==0)=x6,(((g.length:Nat):Int)==0)=x7,(nu==0)=x8,(((ns.length:Nat):Int)==0)=x9,eqS af ⟨#[]⟩=x10,eqS pr ⟨#[]⟩=x11,eqS ma ⟨#[]⟩=x12,eqD ya0 fr _=x13,(mx==0)=x14,keyB y=x15,decide (i≥0)=x16,lockB l=x20,(l.1==0)=x22,decide (((w.size:Nat):Int)>64)=x39,yd0 w=x40
 generalize eqS b ⟨#[]⟩=q1
 generalize ybB b=q2
 clear he hw
 intro hbn
 cases q1<;>cases q2<;>first | exact absurd (hbn rfl) (by decide) | (simp only[Bool.not_false,Bool.not_true,bIf_t,bIf_f,ycJ,Bool.true_and,Bool.false_and,Bool.and_false,beq_true,beq_false,Bool.not_not,ydq,Bool.and_true];first | done | simp only[Bool.and_comm,Bool.and_left_comm,Bool.and_assoc])
theorem good_13 {n:Nat}(h3:300≤n)(hn2:n≤536870912)(he:QB n (13,w,b,y,i,bo,tg,l,q,d,r,g,nu,ns,af,pr,ma,fr,mx,u)):yaH.f n (13,w,b,y,i,bo,tg,l,q,d,r,g,nu,ns,af,pr,ma,fr,mx,u)=some (goodQ (13,w,b,y,i,bo,tg,l,q,d,r,g,nu,ns,af,pr,ma,fr,mx,u),()):=by
 have hw:w.size<n:=he.w
 rw[yaH.e0]
 simp only[yaH.e1,own_13 h3 hn2 w b y i bo tg l q d r g nu ns af pr ma fr mx u he,yfh,ydL (by omega) hw,yba.e0,ya3 h3,yaJ,bnd_s,Int.reduceBEq,bIf_t,bIf_f,yck]
 have hbn:=ycP b
 unfold goodQ
 simp (decide:=true) only [fld,decide_true,decide_false,show yeu 13=0 from rfl,show ∀ l,lockK 13 l=true from λ_=>rfl,show ∀ f,fromK 13 f=(ybB f.1&&(keyB f.2.1&&decide (f.2.2.1≥1))) from λ_=>rfl,if_true,if_false,Bool.false_eq_true,ybF,ydp,yec,ydE,beq_self_eq_true,Bool.true_and,Bool.and_true,Bool.not_false,List.length_nil,c00,show ((21:Int)≤13)=False from eq_false (by decide)]
 revert hbn
 generalize (((bo.length:Nat):Int)==0)=x2,eqD yaO l _=x4,eqD yaA d _=x5,(((r.length:Nat):Int)==0)=x6,(((g.length:Nat):Int)==0)=x7,(nu==0)=x8,(((ns.length:Nat):Int)==0)=x9,eqS af ⟨#[]⟩=x10,eqS pr ⟨#[]⟩=x11,eqS ma ⟨#[]⟩=x12,eqD ya0 fr _=x13,(mx==0)=x14,keyB y=x15,decide (i≥0)=x16,tagsB tg=x19,decide (((w.size:Nat):Int)>64)=x39,yd0 w=x40
 generalize eqS b ⟨#[]⟩=q1
 generalize ybB b=q2
 clear he hw
 intro hbn
 cases q1<;>cases q2<;>first | exact absurd (hbn rfl) (by decide) | (simp only[Bool.not_false,Bool.not_true,bIf_t,bIf_f,ycJ,Bool.true_and,Bool.false_and,Bool.and_false,beq_true,beq_false,Bool.not_not,ydq,Bool.and_true];first | done | simp only[Bool.and_comm,Bool.and_left_comm,Bool.and_assoc])
theorem good_14 {n:Nat}(h3:300≤n)(hn2:n≤536870912)(he:QB n (14,w,b,y,i,bo,tg,l,q,d,r,g,nu,ns,af,pr,ma,fr,mx,u)):yaH.f n (14,w,b,y,i,bo,tg,l,q,d,r,g,nu,ns,af,pr,ma,fr,mx,u)=some (goodQ (14,w,b,y,i,bo,tg,l,q,d,r,g,nu,ns,af,pr,ma,fr,mx,u),()):=by
 have hw:w.size<n:=he.w
 rw[yaH.e0]
 simp only[yaH.e1,own_14 h3 hn2 w b y i bo tg l q d r g nu ns af pr ma fr mx u he,yfh,ydL (by omega) hw,yba.e0,ya3 h3,yaJ,bnd_s,Int.reduceBEq,bIf_t,bIf_f,yck]
 have hbn:=ycP b
 unfold goodQ
 simp (decide:=true) only [fld,decide_true,decide_false,show yeu 14=0 from rfl,show ∀ l,lockK 14 l=true from λ_=>rfl,show ∀ f,fromK 14 f=(ybB f.1&&(keyB f.2.1&&decide (f.2.2.1≥1))) from λ_=>rfl,if_true,if_false,Bool.false_eq_true,ybF,ydp,yec,ydE,beq_self_eq_true,Bool.true_and,Bool.and_true,Bool.not_false,List.length_nil,c00,show ((21:Int)≤14)=False from eq_false (by decide)]
 revert hbn
 generalize eqS y ⟨#[]⟩=x0,(i==0)=x1,(((bo.length:Nat):Int)==0)=x2,(((tg.length:Nat):Int)==0)=x3,eqD yaO l _=x4,eqD yaA d _=x5,(((r.length:Nat):Int)==0)=x6,(((g.length:Nat):Int)==0)=x7,(nu==0)=x8,(((ns.length:Nat):Int)==0)=x9,eqD ya0 fr _=x13,nameB af=x29,nameB pr=x30,nameB ma=x31,decide (mx≥1)=x32,decide (mx≤100)=x33,decide (((w.size:Nat):Int)>64)=x39,yd0 w=x40
 generalize eqS b ⟨#[]⟩=q1
 generalize ybB b=q2
 clear he hw
 intro hbn
 cases q1<;>cases q2<;>first | exact absurd (hbn rfl) (by decide) | (simp only[Bool.not_false,Bool.not_true,bIf_t,bIf_f,ycJ,Bool.true_and,Bool.false_and,Bool.and_false,beq_true,beq_false,Bool.not_not,ydq,Bool.and_true];first | done | simp only[Bool.and_comm,Bool.and_left_comm,Bool.and_assoc])
theorem good_15 {n:Nat}(h3:300≤n)(hn2:n≤536870912)(he:QB n (15,w,b,y,i,bo,tg,l,q,d,r,g,nu,ns,af,pr,ma,fr,mx,u)):yaH.f n (15,w,b,y,i,bo,tg,l,q,d,r,g,nu,ns,af,pr,ma,fr,mx,u)=some (goodQ (15,w,b,y,i,bo,tg,l,q,d,r,g,nu,ns,af,pr,ma,fr,mx,u),()):=by
 have hw:w.size<n:=he.w
 rw[yaH.e0]
 simp only[yaH.e1,own_15 h3 hn2 w b y i bo tg l q d r g nu ns af pr ma fr mx u he,yfh,ydL (by omega) hw,yba.e0,ya3 h3,yaJ,bnd_s,Int.reduceBEq,bIf_t,bIf_f,yck]
 have hbn:=ycP b
 unfold goodQ
 simp (decide:=true) only [fld,decide_true,decide_false,show yeu 15=0 from rfl,show ∀ l,lockK 15 l=true from λ_=>rfl,show ∀ f,fromK 15 f=(eqS f.1 ⟨#[]⟩&&nameB f.2.1) from λ_=>rfl,if_true,if_false,Bool.false_eq_true,ybF,ydp,yec,ydE,beq_self_eq_true,Bool.true_and,Bool.and_true,Bool.not_false,List.length_nil,c00,show ((21:Int)≤15)=False from eq_false (by decide)]
 revert hbn
 generalize eqS y ⟨#[]⟩=x0,(i==0)=x1,(((bo.length:Nat):Int)==0)=x2,(((tg.length:Nat):Int)==0)=x3,eqD yaO l _=x4,eqD yaA d _=x5,(((r.length:Nat):Int)==0)=x6,(((g.length:Nat):Int)==0)=x7,(nu==0)=x8,(((ns.length:Nat):Int)==0)=x9,eqS af ⟨#[]⟩=x10,eqS ma ⟨#[]⟩=x12,nameB pr=x30,decide (mx≥1)=x32,decide (mx≤100)=x33,eqS fr.1 ⟨#[]⟩=x34,nameB fr.2.1=x35,decide (((w.size:Nat):Int)>64)=x39,yd0 w=x40
 generalize eqS b ⟨#[]⟩=q1
 generalize ybB b=q2
 clear he hw
 intro hbn
 cases q1<;>cases q2<;>first | exact absurd (hbn rfl) (by decide) | (simp only[Bool.not_false,Bool.not_true,bIf_t,bIf_f,ycJ,Bool.true_and,Bool.false_and,Bool.and_false,beq_true,beq_false,Bool.not_not,ydq,Bool.and_true];first | done | simp only[Bool.and_comm,Bool.and_left_comm,Bool.and_assoc])
theorem good_16 {n:Nat}(h3:300≤n)(hn2:n≤536870912)(he:QB n (16,w,b,y,i,bo,tg,l,q,d,r,g,nu,ns,af,pr,ma,fr,mx,u)):yaH.f n (16,w,b,y,i,bo,tg,l,q,d,r,g,nu,ns,af,pr,ma,fr,mx,u)=some (goodQ (16,w,b,y,i,bo,tg,l,q,d,r,g,nu,ns,af,pr,ma,fr,mx,u),()):=by
 have hw:w.size<n:=he.w
 rw[yaH.e0]
 simp only[yaH.e1,own_16 h3 hn2 w b y i bo tg l q d r g nu ns af pr ma fr mx u he,yfh,ydL (by omega) hw,yba.e0,ya3 h3,yaJ,bnd_s,Int.reduceBEq,bIf_t,bIf_f,yck]
 have hbn:=ycP b
 unfold goodQ
 simp (decide:=true) only [fld,decide_true,decide_false,show yeu 16=0 from rfl,show ∀ l,lockK 16 l=true from λ_=>rfl,show ∀ f,fromK 16 f=(ybB f.1&&(keyB f.2.1&&decide (f.2.2.1≥1))) from λ_=>rfl,if_true,if_false,Bool.false_eq_true,ybF,ydp,yec,ydE,beq_self_eq_true,Bool.true_and,Bool.and_true,Bool.not_false,List.length_nil,c00,show ((21:Int)≤16)=False from eq_false (by decide)]
 revert hbn
 generalize (i==0)=x1,(((bo.length:Nat):Int)==0)=x2,eqD yaO l _=x4,eqD yaA d _=x5,(((r.length:Nat):Int)==0)=x6,(((g.length:Nat):Int)==0)=x7,(nu==0)=x8,(((ns.length:Nat):Int)==0)=x9,eqS af ⟨#[]⟩=x10,eqS pr ⟨#[]⟩=x11,eqS ma ⟨#[]⟩=x12,eqD ya0 fr _=x13,(mx==0)=x14,keyB y=x15,tagsB tg=x19,decide (((w.size:Nat):Int)>64)=x39,yd0 w=x40
 generalize eqS b ⟨#[]⟩=q1
 generalize ybB b=q2
 clear he hw
 intro hbn
 cases q1<;>cases q2<;>first | exact absurd (hbn rfl) (by decide) | (simp only[Bool.not_false,Bool.not_true,bIf_t,bIf_f,ycJ,Bool.true_and,Bool.false_and,Bool.and_false,beq_true,beq_false,Bool.not_not,ydq,Bool.and_true];first | done | simp only[Bool.and_comm,Bool.and_left_comm,Bool.and_assoc])
theorem good_17 {n:Nat}(h3:300≤n)(hn2:n≤536870912)(he:QB n (17,w,b,y,i,bo,tg,l,q,d,r,g,nu,ns,af,pr,ma,fr,mx,u)):yaH.f n (17,w,b,y,i,bo,tg,l,q,d,r,g,nu,ns,af,pr,ma,fr,mx,u)=some (goodQ (17,w,b,y,i,bo,tg,l,q,d,r,g,nu,ns,af,pr,ma,fr,mx,u),()):=by
 have hw:w.size<n:=he.w
 rw[yaH.e0]
 simp only[yaH.e1,own_17 h3 hn2 w b y i bo tg l q d r g nu ns af pr ma fr mx u he,yfh,ydL (by omega) hw,yba.e0,ya3 h3,yaJ,bnd_s,Int.reduceBEq,bIf_t,bIf_f,yck]
 have hbn:=ycP b
 unfold goodQ
 simp (decide:=true) only [fld,decide_true,decide_false,show yeu 17=1 from rfl,show ∀ l,lockK 17 l=true from λ_=>rfl,show ∀ f,fromK 17 f=(ybB f.1&&(keyB f.2.1&&decide (f.2.2.1≥1))) from λ_=>rfl,if_true,if_false,Bool.false_eq_true,ybF,ydp,yec,ydE,beq_self_eq_true,Bool.true_and,Bool.and_true,Bool.not_false,List.length_nil,c00,show ((21:Int)≤17)=False from eq_false (by decide)]
 revert hbn
 generalize eqS y ⟨#[]⟩=x0,(((tg.length:Nat):Int)==0)=x3,eqD yaO l _=x4,eqD yaA d _=x5,(((r.length:Nat):Int)==0)=x6,(((g.length:Nat):Int)==0)=x7,(((ns.length:Nat):Int)==0)=x9,eqS af ⟨#[]⟩=x10,eqS pr ⟨#[]⟩=x11,eqS ma ⟨#[]⟩=x12,eqD ya0 fr _=x13,(mx==0)=x14,decide (i≥1)=x17,decide (((bo.length:Nat):Int)≤1024)=x18,decide (nu≥1)=x26,decide (nu≤10000)=x27,decide (((w.size:Nat):Int)>64)=x39,yd0 w=x40
 generalize eqS b ⟨#[]⟩=q1
 generalize ybB b=q2
 clear he hw
 intro hbn
 cases q1<;>cases q2<;>first | exact absurd (hbn rfl) (by decide) | (simp only[Bool.not_false,Bool.not_true,bIf_t,bIf_f,ycJ,Bool.true_and,Bool.false_and,Bool.and_false,beq_true,beq_false,Bool.not_not,ydq,Bool.and_true];first | done | simp only[Bool.and_comm,Bool.and_left_comm,Bool.and_assoc])
theorem good_18 {n:Nat}(h3:300≤n)(hn2:n≤536870912)(he:QB n (18,w,b,y,i,bo,tg,l,q,d,r,g,nu,ns,af,pr,ma,fr,mx,u)):yaH.f n (18,w,b,y,i,bo,tg,l,q,d,r,g,nu,ns,af,pr,ma,fr,mx,u)=some (goodQ (18,w,b,y,i,bo,tg,l,q,d,r,g,nu,ns,af,pr,ma,fr,mx,u),()):=by
 have hw:w.size<n:=he.w
 rw[yaH.e0]
 simp only[yaH.e1,own_18 h3 hn2 w b y i bo tg l q d r g nu ns af pr ma fr mx u he,yfh,ydL (by omega) hw,yba.e0,ya3 h3,yaJ,bnd_s,Int.reduceBEq,bIf_t,bIf_f,yck]
 have hbn:=ycP b
 unfold goodQ
 simp (decide:=true) only [fld,decide_true,decide_false,show yeu 18=1 from rfl,show ∀ l,lockK 18 l=true from λ_=>rfl,show ∀ f,fromK 18 f=(ybB f.1&&(keyB f.2.1&&decide (f.2.2.1≥1))) from λ_=>rfl,if_true,if_false,Bool.false_eq_true,ybF,ydp,yec,ydE,beq_self_eq_true,Bool.true_and,Bool.and_true,Bool.not_false,List.length_nil,c00,show ((21:Int)≤18)=False from eq_false (by decide)]
 revert hbn
 generalize eqS y ⟨#[]⟩=x0,(((bo.length:Nat):Int)==0)=x2,(((tg.length:Nat):Int)==0)=x3,eqD yaO l _=x4,eqD yaA d _=x5,(((r.length:Nat):Int)==0)=x6,(((g.length:Nat):Int)==0)=x7,(nu==0)=x8,eqS af ⟨#[]⟩=x10,eqS pr ⟨#[]⟩=x11,eqS ma ⟨#[]⟩=x12,eqD ya0 fr _=x13,(mx==0)=x14,decide (i≥1)=x17,decide (((ns.length:Nat):Int)≤16)=x28,decide (((w.size:Nat):Int)>64)=x39,yd0 w=x40
 generalize eqS b ⟨#[]⟩=q1
 generalize ybB b=q2
 clear he hw
 intro hbn
 cases q1<;>cases q2<;>first | exact absurd (hbn rfl) (by decide) | (simp only[Bool.not_false,Bool.not_true,bIf_t,bIf_f,ycJ,Bool.true_and,Bool.false_and,Bool.and_false,beq_true,beq_false,Bool.not_not,ydq,Bool.and_true];first | done | simp only[Bool.and_comm,Bool.and_left_comm,Bool.and_assoc])
theorem good_19 {n:Nat}(h3:300≤n)(hn2:n≤536870912)(he:QB n (19,w,b,y,i,bo,tg,l,q,d,r,g,nu,ns,af,pr,ma,fr,mx,u)):yaH.f n (19,w,b,y,i,bo,tg,l,q,d,r,g,nu,ns,af,pr,ma,fr,mx,u)=some (goodQ (19,w,b,y,i,bo,tg,l,q,d,r,g,nu,ns,af,pr,ma,fr,mx,u),()):=by
 have hw:w.size<n:=he.w
 rw[yaH.e0]
 simp only[yaH.e1,own_19 h3 hn2 w b y i bo tg l q d r g nu ns af pr ma fr mx u he,yfh,ydL (by omega) hw,yba.e0,ya3 h3,yaJ,bnd_s,Int.reduceBEq,bIf_t,bIf_f,yck]
 have hbn:=ycP b
 unfold goodQ
 simp (decide:=true) only [fld,decide_true,decide_false,show yeu 19=1 from rfl,show ∀ l,lockK 19 l=true from λ_=>rfl,show ∀ f,fromK 19 f=(ybB f.1&&(keyB f.2.1&&decide (f.2.2.1≥1))) from λ_=>rfl,if_true,if_false,Bool.false_eq_true,ybF,ydp,yec,ydE,beq_self_eq_true,Bool.true_and,Bool.and_true,Bool.not_false,List.length_nil,c00,show ((21:Int)≤19)=False from eq_false (by decide)]
 revert hbn
 generalize eqS y ⟨#[]⟩=x0,(((bo.length:Nat):Int)==0)=x2,(((tg.length:Nat):Int)==0)=x3,eqD yaO l _=x4,eqD yaA d _=x5,(((r.length:Nat):Int)==0)=x6,(((g.length:Nat):Int)==0)=x7,(nu==0)=x8,(((ns.length:Nat):Int)==0)=x9,eqS af ⟨#[]⟩=x10,eqS pr ⟨#[]⟩=x11,eqS ma ⟨#[]⟩=x12,eqD ya0 fr _=x13,(mx==0)=x14,decide (i≥1)=x17,decide (((w.size:Nat):Int)>64)=x39,yd0 w=x40
 generalize eqS b ⟨#[]⟩=q1
 generalize ybB b=q2
 clear he hw
 intro hbn
 cases q1<;>cases q2<;>first | exact absurd (hbn rfl) (by decide) | (simp only[Bool.not_false,Bool.not_true,bIf_t,bIf_f,ycJ,Bool.true_and,Bool.false_and,Bool.and_false,beq_true,beq_false,Bool.not_not,ydq,Bool.and_true];first | done | simp only[Bool.and_comm,Bool.and_left_comm,Bool.and_assoc])
theorem good_20 {n:Nat}(h3:300≤n)(hn2:n≤536870912)(he:QB n (20,w,b,y,i,bo,tg,l,q,d,r,g,nu,ns,af,pr,ma,fr,mx,u)):yaH.f n (20,w,b,y,i,bo,tg,l,q,d,r,g,nu,ns,af,pr,ma,fr,mx,u)=some (goodQ (20,w,b,y,i,bo,tg,l,q,d,r,g,nu,ns,af,pr,ma,fr,mx,u),()):=by
 have hw:w.size<n:=he.w
 rw[yaH.e0]
 simp only[yaH.e1,own_20 h3 hn2 w b y i bo tg l q d r g nu ns af pr ma fr mx u he,yfh,ydL (by omega) hw,yba.e0,ya3 h3,yaJ,bnd_s,Int.reduceBEq,bIf_t,bIf_f,yck]
 have hbn:=ycP b
 unfold goodQ
 simp (decide:=true) only [fld,decide_true,decide_false,show yeu 20=0 from rfl,show ∀ l,lockK 20 l=true from λ_=>rfl,show ∀ f,fromK 20 f=(ybB f.1&&(keyB f.2.1&&decide (f.2.2.1≥1))) from λ_=>rfl,if_true,if_false,Bool.false_eq_true,ybF,ydp,yec,ydE,beq_self_eq_true,Bool.true_and,Bool.and_true,Bool.not_false,List.length_nil,c00,show ((21:Int)≤20)=False from eq_false (by decide)]
 revert hbn
 generalize (i==0)=x1,(((bo.length:Nat):Int)==0)=x2,(((tg.length:Nat):Int)==0)=x3,eqD yaO l _=x4,eqD yaA d _=x5,(((r.length:Nat):Int)==0)=x6,(((g.length:Nat):Int)==0)=x7,(nu==0)=x8,(((ns.length:Nat):Int)==0)=x9,eqS af ⟨#[]⟩=x10,eqS pr ⟨#[]⟩=x11,eqS ma ⟨#[]⟩=x12,(mx==0)=x14,keyB y=x15,ybB fr.1=x36,keyB fr.2.1=x37,decide (fr.2.2.1≥1)=x38,decide (((w.size:Nat):Int)>64)=x39,yd0 w=x40
 generalize eqS b ⟨#[]⟩=q1
 generalize ybB b=q2
 clear he hw
 intro hbn
 cases q1<;>cases q2<;>first | exact absurd (hbn rfl) (by decide) | (simp only[Bool.not_false,Bool.not_true,bIf_t,bIf_f,ycJ,Bool.true_and,Bool.false_and,Bool.and_false,beq_true,beq_false,Bool.not_not,ydq,Bool.and_true];first | done | simp only[Bool.and_comm,Bool.and_left_comm,Bool.and_assoc])
theorem good_21 {n:Nat}(h3:300≤n)(hn2:n≤536870912)(he:QB n (21,w,b,y,i,bo,tg,l,q,d,r,g,nu,ns,af,pr,ma,fr,mx,u)):yaH.f n (21,w,b,y,i,bo,tg,l,q,d,r,g,nu,ns,af,pr,ma,fr,mx,u)=some (goodQ (21,w,b,y,i,bo,tg,l,q,d,r,g,nu,ns,af,pr,ma,fr,mx,u),()):=by
 have hw:w.size<n:=he.w
 rw[yaH.e0]
 simp only[yaH.e1,own_21 h3 hn2 w b y i bo tg l q d r g nu ns af pr ma fr mx u he,yfh,ydL (by omega) hw,yba.e0,ya3 h3,yaJ,bnd_s,Int.reduceBEq,bIf_t,bIf_f,yck]
 have hbn:=ycP b
 unfold goodQ
 simp (decide:=true) only [fld,decide_true,decide_false,show yeu 21=0 from rfl,show ∀ l,lockK 21 l=true from λ_=>rfl,show ∀ f,fromK 21 f=(ybB f.1&&(keyB f.2.1&&decide (f.2.2.1≥1))) from λ_=>rfl,if_true,if_false,Bool.false_eq_true,ybF,ydp,yec,ydE,beq_self_eq_true,Bool.true_and,Bool.and_true,Bool.not_false,List.length_nil,c00,show ((21:Int)≤21)=True from eq_true (by decide)]
 revert hbn
 generalize eqS y ⟨#[]⟩=x0,(i==0)=x1,(((bo.length:Nat):Int)==0)=x2,(((tg.length:Nat):Int)==0)=x3,eqD yaO l _=x4,eqD yaA d _=x5,(((r.length:Nat):Int)==0)=x6,(((g.length:Nat):Int)==0)=x7,(nu==0)=x8,(((ns.length:Nat):Int)==0)=x9,eqS af ⟨#[]⟩=x10,eqS pr ⟨#[]⟩=x11,eqS ma ⟨#[]⟩=x12,eqD ya0 fr _=x13,(mx==0)=x14,decide (((w.size:Nat):Int)>64)=x39,yd0 w=x40
 generalize eqS b ⟨#[]⟩=q1
 generalize ybB b=q2
 clear he hw
 intro hbn
 cases q1<;>cases q2<;>first | exact absurd (hbn rfl) (by decide) | (simp only[Bool.not_false,Bool.not_true,bIf_t,bIf_f,ycJ,Bool.true_and,Bool.false_and,Bool.and_false,beq_true,beq_false,Bool.not_not,ydq,Bool.and_true];first | done | simp only[Bool.and_comm,Bool.and_left_comm,Bool.and_assoc])
theorem good_22 {n:Nat}(h3:300≤n)(hn2:n≤536870912)(he:QB n (22,w,b,y,i,bo,tg,l,q,d,r,g,nu,ns,af,pr,ma,fr,mx,u)):yaH.f n (22,w,b,y,i,bo,tg,l,q,d,r,g,nu,ns,af,pr,ma,fr,mx,u)=some (goodQ (22,w,b,y,i,bo,tg,l,q,d,r,g,nu,ns,af,pr,ma,fr,mx,u),()):=by
 have hw:w.size<n:=he.w
 rw[yaH.e0]
 simp only[yaH.e1,own_22 h3 hn2 w b y i bo tg l q d r g nu ns af pr ma fr mx u he,yfh,ydL (by omega) hw,yba.e0,ya3 h3,yaJ,bnd_s,Int.reduceBEq,bIf_t,bIf_f,yck]
 have hbn:=ycP b
 unfold goodQ
 simp (decide:=true) only [fld,decide_true,decide_false,show yeu 22=0 from rfl,show ∀ l,lockK 22 l=true from λ_=>rfl,show ∀ f,fromK 22 f=(ybB f.1&&(keyB f.2.1&&decide (f.2.2.1≥1))) from λ_=>rfl,if_true,if_false,Bool.false_eq_true,ybF,ydp,yec,ydE,beq_self_eq_true,Bool.true_and,Bool.and_true,Bool.not_false,List.length_nil,c00,show ((21:Int)≤22)=True from eq_true (by decide)]
 revert hbn
 generalize eqS y ⟨#[]⟩=x0,(i==0)=x1,(((bo.length:Nat):Int)==0)=x2,(((tg.length:Nat):Int)==0)=x3,eqD yaO l _=x4,eqD yaA d _=x5,(((r.length:Nat):Int)==0)=x6,(((g.length:Nat):Int)==0)=x7,(nu==0)=x8,(((ns.length:Nat):Int)==0)=x9,eqS af ⟨#[]⟩=x10,eqS pr ⟨#[]⟩=x11,eqS ma ⟨#[]⟩=x12,eqD ya0 fr _=x13,(mx==0)=x14,decide (((w.size:Nat):Int)>64)=x39,yd0 w=x40
 generalize eqS b ⟨#[]⟩=q1
 generalize ybB b=q2
 clear he hw
 intro hbn
 cases q1<;>cases q2<;>first | exact absurd (hbn rfl) (by decide) | (simp only[Bool.not_false,Bool.not_true,bIf_t,bIf_f,ycJ,Bool.true_and,Bool.false_and,Bool.and_false,beq_true,beq_false,Bool.not_not,ydq,Bool.and_true];first | done | simp only[Bool.and_comm,Bool.and_left_comm,Bool.and_assoc])
end Go.Proofs.YtdlkpmohjhjmfaaGreatDoor
