/-
  The plain laws.
-/
import Derived.Test.YtemhlkdingkjnaaGreatDoorF2
import Derived.Test.YtemhlkdingkjnaaGreatDoorF1
import Derived.Test.YtemhlkdingkjnaaGreatDoorVaTab
import Derived.Lib.MapLaws
import Derived.Test.YtemhlkdingkjnaaGreatDoorRows
import Derived.Test.YtemhlkdingkjnaaGreatDoorCards
import Derived.Test.YtemhlkdingkjnaaGreatDoorTie
import Derived.JoinedCond
import Derived.ChangeCalls
import Derived.Lib.LaidIn
import Derived.Lib.LaidU8T
import Derived.Deep.DeepHandedRow
import Derived.ProofKit
import Derived.HandedShaped
import Derived.Shelf.Vars
import Derived.Test.YtemhlkdingkjnaaGreatDoorVaSort
set_option linter.unusedVariables false
set_option linter.unusedSimpArgs false
namespace Go.Proofs.YtemhlkdingkjnaaGreatDoor
open Go Go.Va Go.Proofs
def ok32 (b:UInt8):Bool:=decide (32≤b.toNat)&&decide (b.toNat≠127)
def cleanB (s:ByteArray):Bool:=s.data.toList.all ok32&&Lib.validD s.data.toList
theorem bnd_some {α β:Type}(a:α)(f:α→Option β):bnd (some a) f=f a:=rfl
theorem all_drop (l:List UInt8)(k:Nat)(h:k<l.length):(l.drop k).all ok32=(ok32 (l.getD k 0)&&(l.drop (k+1)).all ok32):=by
  rw[List.drop_eq_getElem_cons h,List.all_cons,List.getD_eq_getElem?_getD,List.getElem?_eq_getElem h]
  rfl
theorem ok32_hi {b:UInt8}(h:128≤b.toNat):ok32 b=true:=by
  unfold ok32;rw[decide_eq_true (by omega),decide_eq_true (by omega)];rfl
theorem getD_dropA (l:List UInt8)(k i:Nat):(l.drop k).getD i 0=l.getD (k+i) 0:=by
  rw[List.getD_eq_getElem?_getD,List.getD_eq_getElem?_getD,List.getElem?_drop]
theorem bt_nat (s:ByteArray)(k:Nat):bt s (k:Int)=((s.data.toList.getD k 0).toNat:Int):=rfl
theorem clean42_J (n:Nat) (s:ByteArray) (hs:s.size≤1073741824):∀ (m k:Nat),k≤s.size→s.size-k<m →
    F_label_Clean.J1 n m (s,ofBytes s,(((ofBytes s).length:Nat):Int),(k:Int),())=some ((s.data.toList.drop k).all ok32&&Lib.validD s.data.toList,())
  | 0,k,_,h=>by omega
  | m + 1,k,hk,h=>by
    have hsz:=size_eq s
    have hl:=size_of s
    rw[F_label_Clean.e1]
    simp only[hide_eq,bIf_eq,gIf_eq,Nat.zero_add]
    by_cases hlt:k<s.size
    · rw[if_pos (decide_eq_true (by omega)),if_pos ⟨by omega,by omega⟩,all_drop _ _ (by omega),wrap_i64 (by omega)]
      have hb:(ofBytes s).getD (k:Int).toNat 0=((s.data.toList.getD k 0).toNat:Int):=by rw[← bt_getD];rfl
      rw[hb]
      have ih:=clean42_J n s hs m (k+1) (by omega) (by omega)
      rw[show (((k+1:Nat):Int))=(k:Int)+1 by omega]at ih
      rw[ih]
      generalize s.data.toList.getD k 0=b
      unfold ok32
      by_cases h1:b.toNat<32
      · rw[if_pos (decide_eq_true (by omega)),decide_eq_false (by omega)];rfl
      · rw[if_neg (by simp;omega),decide_eq_true (by omega)]
        by_cases h2:b.toNat=127
        · rw[if_pos (by rw[beq_iff_eq];omega),decide_eq_false (by omega)];rfl
        · rw[if_neg (by rw[beq_iff_eq];omega),decide_eq_true (by omega)];simp
    · rw[if_neg (by simp;omega)]
      have hkk:k=s.size:=by omega
      subst hkk
      rw[hsz,List.drop_length]
      rw[F_label_Clean.e2]
      unfold F_unicode_utf8_ValidString.f
      rw[if_pos (by omega),bnd_some]
      rfl
theorem clean42 {n:Nat}{s:ByteArray}(hs:s.size≤1073741824)(hn:s.size<n):F_label_Clean.f n s=some (cleanB s,()):=by
  rw[F_label_Clean.e0]
  change F_label_Clean.J1 n n (s,ofBytes s,(((ofBytes s).length:Nat):Int),((0:Nat):Int),())=_
  rw[clean42_J n s hs n 0 (by omega) (by omega)]
  rfl
theorem step7 (n m:Nat) (r1:Nat) (s:ByteArray) (hs:s.size≤1073741824) (k:Nat) (hk:k≤s.size) (w:Nat) (hw:w≤4) (r:Nat) (hr:r<1048576) (least:Int) (i:Nat) (hi:i<w) :
    F_ref06_Clean.J7 n r1 (m+1) (s,(k:Int),(w:Int),(r:Int),least,(i:Int),()) =
      if k+i<s.size then
        if (s.data.toList.getD (k+i) 0).toNat/64=2 then F_ref06_Clean.J7 n r1 m (s,(k:Int),(w:Int),((r*64+(s.data.toList.getD (k+i) 0).toNat%64:Nat):Int),least,((i+1:Nat):Int),())
        else some (false,())
      else some (false,()):=by
  rw[F_ref06_Clean.e7]
  simp only[hide_eq,bIf_eq,gIf_eq]
  rw[if_pos (decide_eq_true (by omega)),wrap_i64 (x:=(k:Int)+(i:Int)) (by omega)]
  rw[show ((k:Int)+(i:Int))=((k+i:Nat):Int) by omega,bt_nat]
  have hb:=(s.data.toList.getD (k+i) 0).toNat_lt
  generalize hB:(s.data.toList.getD (k+i) 0).toNat=b at hb ⊢
  by_cases h1:k+i<s.size
  · rw[if_neg (by simp;omega),if_pos ⟨by omega,by omega⟩,if_pos h1]
    by_cases h2:b/64=2
    · rw[if_neg (by simp;omega),if_pos ⟨by omega,by omega⟩,if_neg (by simp;omega),if_pos h2,F_ref06_Clean.e8]
      simp only[gIf_eq]
      rw[wrap_i64 (x:=(k:Int)+(i:Int)) (by omega),show ((k:Int)+(i:Int))=((k+i:Nat):Int) by omega,bt_nat,hB,if_pos ⟨by omega,by omega⟩,F_ref06_Clean.e9]
      rw[wrap_i64 (x:=(i:Int)+1) (by omega),wrap_i64 (x:=(r:Int)*64) (by omega),wrap_i64 (x:=(b:Int)) (by omega),wrap_i64 (x:=(r:Int)*64+(b:Int)) (by omega),wrap_i64 (by omega)]
      rw[show ((r:Int)*64+(b:Int)-128)=((r*64+b%64:Nat):Int) by omega]
      rfl
    · rw[if_neg h2]
      by_cases h3:b<128
      · rw[if_pos (decide_eq_true (by omega))]
      · rw[if_neg (by simp;omega),if_pos ⟨by omega,by omega⟩,if_pos (decide_eq_true (by omega))]
  · rw[if_pos (decide_eq_true (by omega)),if_neg h1]
theorem end7 (n m:Nat) (r1:Nat) (s:ByteArray) (hs:s.size≤1073741824) (k:Nat) (hk:k≤s.size) (w:Nat) (hw:w≤4) (r:Nat) (least:Nat) :
    F_ref06_Clean.J7 n r1 (m+1) (s,(k:Int),(w:Int),(r:Int),(least:Int),(w:Int),()) =
      if least≤r∧r≤1114111∧¬ (55296≤r∧r≤57343) then F_ref06_Clean.J1 n r1 (s,((k+w:Nat):Int),()) else some (false,()):=by
  rw[F_ref06_Clean.e7]
  simp only[hide_eq,bIf_eq,gIf_eq]
  rw[if_neg (by simp),F_ref06_Clean.e10]
  simp only[hide_eq,bIf_eq,gIf_eq]
  have e:F_ref06_Clean.J11 n r1 (s,(k:Int),(w:Int),())=F_ref06_Clean.J1 n r1 (s,((k+w:Nat):Int),()):=by
    rw[F_ref06_Clean.e11]
    rw[wrap_i64 (by omega)];congr 2
  rw[e]
  by_cases h1:r<least
  · rw[if_pos (decide_eq_true (by omega)),if_neg (by omega)]
  · rw[if_neg (by simp;omega)]
    by_cases h2:1114111<r
    · rw[if_pos (decide_eq_true (by omega)),if_neg (by omega)]
    · rw[if_neg (by simp;omega)]
      by_cases h3:55296≤r
      · rw[if_pos (decide_eq_true (by omega))]
        by_cases h4:r≤57343
        · rw[if_pos (decide_eq_true (by omega)),if_neg (by omega)]
        · rw[if_neg (by simp;omega),if_pos (by omega)]
      · rw[if_neg (by simp;omega),if_pos (by omega)]
theorem sign44 (q:Nat)(r1:Nat)(s:ByteArray)(hs:s.size≤1073741824)(k:Nat)(hk:k<s.size)(b:Nat)(w:Nat)(hw:1≤w∧w≤4)(r:Nat)(hr:r<128)(least:Nat) :
    F_ref06_Clean.J5 (q+5) r1 (s,(k:Int),(b:Int),(w:Int),(r:Int),(least:Int),())=if 32≤b∧b≠127 then F_ref06_Clean.J7 (q+5) r1 (q+4+1) (s,(k:Int),(w:Int),(r:Int),(least:Int),((1:Nat):Int),()) else some (false,()):=by
  rw[F_ref06_Clean.e5]
  simp only[hide_eq,bIf_eq,gIf_eq]
  by_cases h1:b<32
  · rw[if_pos (decide_eq_true (by omega)),if_neg (by omega)]
  · rw[if_neg (by simp;omega)]
    by_cases h2:b=127
    · rw[if_pos (by rw[beq_iff_eq];omega),if_neg (by omega)]
    · rw[if_neg (by rw[beq_iff_eq];omega),if_pos (by omega)]
      rw[F_ref06_Clean.e6];rfl
theorem round44 (n m:Nat) (s:ByteArray) (hs:s.size≤1073741824) (k:Nat) (hk:k<s.size) (b:Nat) (hb:(s.data.toList.getD k 0).toNat=b) :
    F_ref06_Clean.J1 n (m+1) (s,(k:Int),()) =
      if b<128 then F_ref06_Clean.J5 n m (s,(k:Int),(b:Int),((1:Nat):Int),(b:Int),((0:Nat):Int),())
      else if 192≤b∧b<224 then F_ref06_Clean.J5 n m (s,(k:Int),(b:Int),((2:Nat):Int),((b-192:Nat):Int),((128:Nat):Int),())
      else if 224≤b∧b<240 then F_ref06_Clean.J5 n m (s,(k:Int),(b:Int),((3:Nat):Int),((b-224:Nat):Int),((2048:Nat):Int),())
      else if 240≤b∧b<248 then F_ref06_Clean.J5 n m (s,(k:Int),(b:Int),((4:Nat):Int),((b-240:Nat):Int),((65536:Nat):Int),())
      else some (false,()):=by
  have hb2:=(s.data.toList.getD k 0).toNat_lt
  rw[F_ref06_Clean.e1]
  simp only[hide_eq,bIf_eq,gIf_eq]
  rw[bt_nat,hb,wrap_i64 (by omega),if_pos (decide_eq_true (by omega)),if_pos ⟨by omega,by omega⟩]
  by_cases h1:b<128
  · rw[if_pos (decide_eq_true (by omega)),if_pos h1];rfl
  · rw[if_neg (by simp;omega),if_neg h1]
    have hS2:∀ t:Bool,F_ref06_Clean.J2 n m (s,(k:Int),(b:Int),t,())=if t=true then F_ref06_Clean.J5 n m (s,(k:Int),(b:Int),2,(IntKind.i64.wrap ((b:Int)-192)),128,()) else if decide ((b:Int)≥224)=true then F_ref06_Clean.J3 n m (s,(k:Int),(b:Int),decide ((b:Int)<240),()) else F_ref06_Clean.J3 n m (s,(k:Int),(b:Int),false,()):=by
      intro t;rw[F_ref06_Clean.e2];simp only[hide_eq,bIf_eq,gIf_eq]
    have hS3:∀ t:Bool,F_ref06_Clean.J3 n m (s,(k:Int),(b:Int),t,())=if t=true then F_ref06_Clean.J5 n m (s,(k:Int),(b:Int),3,(IntKind.i64.wrap ((b:Int)-224)),2048,()) else if decide ((b:Int)≥240)=true then F_ref06_Clean.J4 n m (s,(k:Int),(b:Int),decide ((b:Int)<248),()) else F_ref06_Clean.J4 n m (s,(k:Int),(b:Int),false,()):=by
      intro t;rw[F_ref06_Clean.e3];simp only[hide_eq,bIf_eq,gIf_eq]
    have hS4:∀ t:Bool,F_ref06_Clean.J4 n m (s,(k:Int),(b:Int),t,())=if t=true then F_ref06_Clean.J5 n m (s,(k:Int),(b:Int),4,(IntKind.i64.wrap ((b:Int)-240)),65536,()) else some (false,()):=by
      intro t;rw[F_ref06_Clean.e4];simp only[hide_eq,bIf_eq,gIf_eq]
    simp only[hS2,hS3,hS4]
    by_cases h2:192≤b∧b<224
    · rw[if_pos (decide_eq_true (by omega)),if_pos (decide_eq_true (by omega)),if_pos h2,wrap_i64 (by omega),show ((b:Int)-192)=((b-192:Nat):Int) by omega];rfl
    · rw[if_neg h2]
      by_cases h3:224≤b∧b<240
      · rw[if_pos (decide_eq_true (by omega)),if_neg (by simp;omega),if_pos (decide_eq_true (by omega)),if_pos (decide_eq_true (by omega)),if_pos h3,wrap_i64 (x:=(b:Int)-224) (by omega),show ((b:Int)-224)=((b-224:Nat):Int) by omega];rfl
      · rw[if_neg h3]
        by_cases h4:240≤b∧b<248
        · rw[if_pos (decide_eq_true (by omega)),if_neg (by simp;omega),if_pos (decide_eq_true (by omega)),if_neg (by simp;omega),if_pos (decide_eq_true (by omega)),if_pos (decide_eq_true (by omega)),if_pos h4,wrap_i64 (x:=(b:Int)-240) (by omega),show ((b:Int)-240)=((b-240:Nat):Int) by omega];rfl
        · rw[if_neg h4]
          split<;>(simp only[decide_eq_true_eq,Bool.false_eq_true,if_false,ge_iff_le];repeat' split)<;>first | rfl | (exfalso;simp_all;omega) | (exfalso;omega)
theorem clean44_J (q:Nat) (s:ByteArray) (hs:s.size≤1073741824):∀ (m k:Nat),k≤s.size→s.size-k<m →
    F_ref06_Clean.J1 (q+5) m (s,(k:Int),())=some ((s.data.toList.drop k).all ok32&&Lib.validD (s.data.toList.drop k),())
  | 0,k,_,h=>by omega
  | m + 1, k, hk, h => by
    have hsz:=size_eq s
    by_cases hlt:k<s.size
    · obtain⟨b,hb⟩:∃ b,(s.data.toList.getD k 0).toNat=b:=⟨_,rfl⟩
      have hb0:=(s.data.toList.getD k 0).toNat_lt
      have hb1:=(s.data.toList.getD (k+1) 0).toNat_lt
      have hb2:=(s.data.toList.getD (k+2) 0).toNat_lt
      have hb3:=(s.data.toList.getD (k+3) 0).toNat_lt
      have ih1:=λh'=>clean44_J q s hs m (k+1) h' (by omega)
      have ih2:=λh'=>clean44_J q s hs m (k+2) h' (by omega)
      have ih3:=λh'=>clean44_J q s hs m (k+3) h' (by omega)
      have ih4:=λh'=>clean44_J q s hs m (k+4) h' (by omega)
      rw[round44 (q+5) m s hs k hlt b hb]
      have hne:s.data.toList.drop k≠[]:=by
        intro e;have:=congrArg List.length e;rw[List.length_drop]at this;simp at this;omega
      rw[Lib.validD_step _ hne,Lib.decodeL_N,List.length_drop,← hsz]
      simp only[getD_dropA,List.drop_drop,Nat.add_zero]
      have a1:=λh'=>all_drop s.data.toList (k+1) h'
      have a2:=λh'=>all_drop s.data.toList (k+2) h'
      have a3:=λh'=>all_drop s.data.toList (k+3) h'
      rw[all_drop s.data.toList k (by omega)]
      have o0:128≤b→ok32 (s.data.toList.getD k 0)=true:=λh'=>ok32_hi (by omega)
      have o1:128≤(s.data.toList.getD (k+1) 0).toNat→ok32 (s.data.toList.getD (k+1) 0)=true:=λh'=>ok32_hi h'
      have o2:128≤(s.data.toList.getD (k+2) 0).toNat→ok32 (s.data.toList.getD (k+2) 0)=true:=λh'=>ok32_hi h'
      have o3:128≤(s.data.toList.getD (k+3) 0).toNat→ok32 (s.data.toList.getD (k+3) 0)=true:=λh'=>ok32_hi h'
      have s1:=λ(w:Nat) hw r hr least hi=>step7 (q+5) (q+4) m s hs k hk w hw r hr least 1 hi
      have s2:=λ(w:Nat) hw r hr least hi=>step7 (q+5) (q+3) m s hs k hk w hw r hr least 2 hi
      have s3:=λ(w:Nat) hw r hr least hi=>step7 (q+5) (q+2) m s hs k hk w hw r hr least 3 hi
      rw[hb]at hb0 ⊢
      generalize (s.data.toList.getD (k+1) 0).toNat=b1 at hb1 o1 s1 ⊢
      generalize (s.data.toList.getD (k+2) 0).toNat=b2 at hb2 o2 s2 ⊢
      generalize (s.data.toList.getD (k+3) 0).toNat=b3 at hb3 o3 s3 ⊢
      obtain⟨D,hD⟩:∃ D,Lib.decodeN (s.size-k) b b1 b2 b3=D:=⟨_,rfl⟩
      rw[hD]
      unfold Lib.decodeN at hD
      have hbad:D=(65533,1)→∀ x y:Bool,(some (x&&y&&(if D.1=65533∧D.2=1 then false else Lib.validD (s.data.toList.drop (k+D.2))),()):Option F_ref06_Clean.R)=some (false,()):=by
        rintro rfl x y;rw[if_pos ⟨rfl,rfl⟩,Bool.and_false]
      have hgood:∀ r w,D=(r,w)→w≠1∨r≠65533→(if D.1=65533∧D.2=1 then false else Lib.validD (s.data.toList.drop (k+D.2)))=Lib.validD (s.data.toList.drop (k+w)):=by
        rintro r w rfl h'; rw[if_neg (by simp only;omega)]
      by_cases h1:b<128
      · rw[if_pos h1]at hD
        rw[if_pos h1,sign44 q m s hs k hlt b 1 (by omega) b h1 0,end7 (q+5) (q+4) m s hs k hk 1 (by omega) b 0]
        rw[hgood b 1 hD.symm (by omega),if_pos (by omega:0≤b∧b≤1114111∧¬ (55296≤b∧b≤57343)),ih1 (by omega)]
        unfold ok32
        rw[hb]
        by_cases hc:32≤b∧b≠127
        · rw[if_pos hc,decide_eq_true hc.1,decide_eq_true hc.2];rfl
        · rw[if_neg hc]
          have:(decide (32≤b)&&decide (b≠127))=false:=by simp;omega
          rw[this];rfl
      · rw[if_neg h1]at hD ⊢
        rw[o0 (by omega)]
        by_cases h2:192≤b∧b<224
        · rw[if_pos h2,sign44 q m s hs k hlt b 2 (by omega) (b-192) (by omega) 128,if_pos (by omega),s1 2 (by omega) (b-192) (by omega) _ (by omega),end7 (q+5) (q+3) m s hs k hk 2 (by omega)]
          by_cases c:k+1<s.size∧b1/64=2
          · rw[if_pos ⟨by omega,by omega,c.2⟩]at hD
            rw[if_pos c.1,if_pos c.2]
            have er:(b-192)*64+b1%64=b%32*64+b1%64:=by omega
            rw[er]
            have hrr:b%32*64+b1%64<2048:=by omega
            generalize b%32*64+b1%64=rr at hD hrr ⊢
            by_cases c3:rr≥128
            · rw[if_pos c3]at hD
              rw[if_pos (by omega:128≤rr∧rr≤1114111∧¬ (55296≤rr∧rr≤57343)),hgood _ _ hD.symm (by omega),ih2 (by omega),a1 (by omega),o1 (by omega)];rfl
            · rw[if_neg c3]at hD
              rw[if_neg (by omega:¬ (128≤rr∧rr≤1114111∧¬ (55296≤rr∧rr≤57343))),hbad hD.symm]
          · rw[if_neg (by omega),if_neg (by omega),if_neg (by omega)]at hD
            rw[hbad hD.symm]
            by_cases c3:k+1<s.size
            · rw[if_pos c3,if_neg (by omega)]
            · rw[if_neg c3]
        · rw[if_neg h2]
          rw[if_neg (by omega)]at hD
          by_cases h3:224≤b∧b<240
          · rw[if_pos h3,sign44 q m s hs k hlt b 3 (by omega) (b-224) (by omega) 2048,if_pos (by omega),s1 3 (by omega) (b-224) (by omega) _ (by omega)]
            by_cases c1:k+1<s.size∧b1/64=2
            · rw[if_pos c1.1,if_pos c1.2,s2 3 (by omega) _ (by omega) _ (by omega),end7 (q+5) (q+2) m s hs k hk 3 (by omega)]
              by_cases c2:k+2<s.size∧b2/64=2
              · rw[if_pos ⟨by omega,⟨by omega,c1.2⟩,by omega,c2.2⟩]at hD
                rw[if_pos c2.1,if_pos c2.2]
                have er:((b-224)*64+b1%64)*64+b2%64=b%16*4096+b1%64*64+b2%64:=by omega
                rw[er]
                generalize b%16*4096+b1%64*64+b2%64=rr at hD ⊢
                by_cases c3:rr≥2048∧(rr<55296∨57344≤rr∧rr≤1114111)
                · rw[if_pos c3]at hD
                  rw[if_pos (by omega:2048≤rr∧rr≤1114111∧¬ (55296≤rr∧rr≤57343)),hgood _ _ hD.symm (by omega),ih3 (by omega),a1 (by omega),o1 (by omega),a2 (by omega),o2 (by omega)];rfl
                · rw[if_neg c3]at hD
                  rw[if_neg (by omega:¬ (2048≤rr∧rr≤1114111∧¬ (55296≤rr∧rr≤57343))),hbad hD.symm]
              · rw[if_neg (by omega),if_neg (by omega)]at hD
                rw[hbad hD.symm]
                by_cases c3:k+2<s.size
                · rw[if_pos c3,if_neg (by omega)]
                · rw[if_neg c3]
            · rw[if_neg (by omega),if_neg (by omega)]at hD
              rw[hbad hD.symm]
              by_cases c3:k+1<s.size
              · rw[if_pos c3,if_neg (by omega)]
              · rw[if_neg c3]
          · rw[if_neg h3]
            rw[if_neg (by omega)]at hD
            by_cases h4:240≤b∧b<248
            · rw[if_pos h4,sign44 q m s hs k hlt b 4 (by omega) (b-240) (by omega) 65536,if_pos (by omega),s1 4 (by omega) (b-240) (by omega) _ (by omega)]
              by_cases c1:k+1<s.size∧b1/64=2
              · rw[if_pos c1.1,if_pos c1.2,s2 4 (by omega) _ (by omega) _ (by omega)]
                by_cases c2:k+2<s.size∧b2/64=2
                · rw[if_pos c2.1,if_pos c2.2,s3 4 (by omega) _ (by omega) _ (by omega),end7 (q+5) (q+1) m s hs k hk 4 (by omega)]
                  by_cases c5:k+3<s.size∧b3/64=2
                  · rw[if_pos ⟨by omega,⟨by omega,c1.2⟩,⟨by omega,c2.2⟩,by omega,c5.2⟩]at hD
                    rw[if_pos c5.1,if_pos c5.2]
                    have er:(((b-240)*64+b1%64)*64+b2%64)*64+b3%64=b%8*262144+b1%64*4096+b2%64*64+b3%64:=by omega
                    rw[er]
                    generalize b%8*262144+b1%64*4096+b2%64*64+b3%64=rr at hD ⊢
                    by_cases c3:rr≥65536∧(rr<55296∨57344≤rr∧rr≤1114111)
                    · rw[if_pos c3]at hD
                      rw[if_pos (by omega:65536≤rr∧rr≤1114111∧¬ (55296≤rr∧rr≤57343)),hgood _ _ hD.symm (by omega),ih4 (by omega),a1 (by omega),o1 (by omega),a2 (by omega),o2 (by omega),a3 (by omega),o3 (by omega)];rfl
                    · rw[if_neg c3]at hD
                      rw[if_neg (by omega:¬ (65536≤rr∧rr≤1114111∧¬ (55296≤rr∧rr≤57343))),hbad hD.symm]
                  · rw[if_neg (by omega)]at hD
                    rw[hbad hD.symm]
                    by_cases c3:k+3<s.size
                    · rw[if_pos c3,if_neg (by omega)]
                    · rw[if_neg c3]
                · rw[if_neg (by omega)]at hD
                  rw[hbad hD.symm]
                  by_cases c3:k+2<s.size
                  · rw[if_pos c3,if_neg (by omega)]
                  · rw[if_neg c3]
              · rw[if_neg (by omega)]at hD
                rw[hbad hD.symm]
                by_cases c3:k+1<s.size
                · rw[if_pos c3,if_neg (by omega)]
                · rw[if_neg c3]
            · rw[if_neg (by omega)]at hD
              rw[if_neg h4,hbad hD.symm]
    · have hkk:k=s.size:=by omega
      subst hkk
      rw[F_ref06_Clean.e1]
      simp only[hide_eq,bIf_eq,gIf_eq]
      rw[if_neg (by simp),hsz,List.drop_length]
      rw[F_ref06_Clean.e12];rfl
theorem clean44 {n:Nat}{s:ByteArray}(hs:s.size≤1073741824)(hn:s.size<n)(h5:5≤n):F_ref06_Clean.f n s=some (cleanB s,()):=by
  obtain⟨q,rfl⟩:∃ q,n=q+5:=⟨n-5,by omega⟩
  rw[F_ref06_Clean.e0]
  change F_ref06_Clean.J1 (q+5) (q+5) (s,((0:Nat):Int),())=_
  rw[clean44_J q s hs (q+5) 0 (by omega) (by omega)]
  rfl
end Go.Proofs.YtemhlkdingkjnaaGreatDoor
namespace Go.Proofs.YtemhlkdingkjnaaGreatDoor
open Go Go.Va Go.Proofs
theorem ba_beq (a b:ByteArray):(a==b)=decide (a=b):=by
  change (a.data==b.data)=_
  by_cases h:a=b
  · subst h;simp
  · rw[decide_eq_false h]
    exact beq_false_of_ne (λe=>h (by cases a;cases b;exact congrArg _ e))
theorem eqS_eq (a b:ByteArray):eqS a b=(a==b):=by
  unfold eqS
  rw[Lib.toList_data,Lib.toList_data,ba_beq]
  by_cases h:a=b
  · subst h;simp
  · rw[decide_eq_false h]
    exact beq_false_of_ne (λe=>h (by cases a;cases b;simp at e;rw[e]))
def clampI (t:Int):Int:=if t < -62135596800 then -62135596800 else if t>253402300799 then 253402300799 else t
theorem clamp33 (n:Nat)(t:Int):F_when_Clamp.f n t=some (clampI t,()):=by
  rw[F_when_Clamp.e0]
  unfold clampI maxI minI
  congr 2
  repeat' split
  all_goals omega
theorem clamp36 (n:Nat)(t:Int):F_ref05_Clamp.f n t=some (clampI t,()):=by
  rw[F_ref05_Clamp.e0]
  unfold clampI
  simp only[hide_eq,bIf_eq,decide_eq_true_eq]
  repeat' split
  all_goals first | rfl | omega
def lockB (l:D_api_Lock):Bool:=
  if l.1=0 then l.2.1==0 else if l.1=1∨l.1=2 then l.2.1==clampI l.2.1 else false
theorem lock34 (n:Nat)(l:D_api_Lock):F_mode_Sound.f n l=some (lockB l,()):=by
  rw[F_mode_Sound.e0]
  unfold lockB
  simp only[hide_eq,bIf_eq,F_mode_Sound.e1,clamp33,bnd_some,beq_iff_eq]
  by_cases h0:l.1=0
  · rw[if_pos h0,if_pos h0]
  · rw[if_neg h0,if_neg h0]
    by_cases h1:l.1=1
    · rw[if_pos h1,if_pos (c:=l.1=1∨l.1=2) (.inl h1)];rfl
    · rw[if_neg h1]
      by_cases h2:l.1=2
      · rw[if_pos h2,if_pos (c:=l.1=1∨l.1=2) (.inr h2)]
      · rw[if_neg h2,if_neg (c:=l.1=1∨l.1=2) (not_or.2 ⟨h1,h2⟩)]
theorem lock37 (n:Nat)(l:D_api_Lock):F_ref12_Sound.f n l=some (lockB l,()):=by
  rw[F_ref12_Sound.e0]
  unfold lockB
  simp only[hide_eq,bIf_eq,clamp36,bnd_some,beq_iff_eq]
  by_cases h0:l.1=0
  · rw[if_pos h0,if_pos h0]
  · rw[if_neg h0,if_neg h0]
    by_cases h1:l.1=1
    · rw[if_pos h1,if_pos (c:=l.1=1∨l.1=2) (.inl h1),BEq.comm]
    · rw[if_neg h1]
      by_cases h2:l.1=2
      · rw[if_pos h2,if_pos (c:=l.1=1∨l.1=2) (.inr h2),BEq.comm]
      · rw[if_neg h2,if_neg (c:=l.1=1∨l.1=2) (not_or.2 ⟨h1,h2⟩)]
theorem size0 (s:ByteArray):eqS s ⟨#[]⟩=decide (s.size=0):=by
  rw[eqS_eq,ba_beq]
  by_cases h:s=⟨#[]⟩
  · subst h;rfl
  · rw[decide_eq_false h,decide_eq_false]
    intro h2
    apply h
    cases s with | mk d=>
    have:d = #[]:=Array.eq_empty_of_size_eq_zero h2
    rw[this]
def tagB (t:D_api_Tag):Bool:=decide (1≤t.1.size)&&(decide (t.1.size≤64)&&(decide (t.2.1.size≤64)&&(cleanB t.1&&cleanB t.2.1)))
def TB (n:Nat)(t:D_api_Tag):Prop:=t.1.size<n∧t.2.1.size<n
theorem tag47 {n:Nat}{t:D_api_Tag}(h:TB n t)(hn:n≤536870912):F_tags_good.f n t=some (tagB t,()):=by
  rw[F_tags_good.e0]
  unfold tagB
  rw[clean42 (by have:=h.1;omega) h.1,clean42 (by have:=h.2;omega) h.2,size0]
  simp only[hide_eq,bIf_eq,bnd_some]
  have e1:decide ((t.1.size:Int)≤64)=decide (t.1.size≤64):=decide_eq_decide.2 (by omega)
  have e2:decide ((t.2.1.size:Int)≤64)=decide (t.2.1.size≤64):=decide_eq_decide.2 (by omega)
  have e0:(!decide (t.1.size=0))=decide (1≤t.1.size):=by
    by_cases h0:t.1.size=0
    · rw[decide_eq_true h0,decide_eq_false (by omega)];rfl
    · rw[decide_eq_false h0,decide_eq_true (by omega)];rfl
  rw[e0,e1,e2]
  cases decide (1≤t.1.size)<;>cases decide (t.1.size≤64)<;>cases decide (t.2.1.size≤64)<;>cases cleanB t.1<;>simp
def chk {α:Type}(p:α→Bool)(q:α→α→Bool):Option α→List α→Bool
  | _,[]=>true
  | none,x::l=>p x&&chk p q (some x) l
  | some y,x::l=>p x&&(q y x&&chk p q (some x) l)
def prev {α:Type}(l:List α)(k:Nat):Option α:=if k=0 then none else l[k-1]?
theorem chk_zero {α:Type}{p:α→Bool}{q:α→α→Bool}{l:List α}{d:α}(h:0<l.length):chk p q (prev l 0) (l.drop 0)=(p (l.getD 0 d)&&chk p q (prev l 1) (l.drop 1)):=by
  cases l with
  | nil=>simp at h
  | cons x r=>rfl
theorem chk_succ {α:Type}{p:α→Bool}{q:α→α→Bool}{l:List α}{d:α}{k:Nat}(h0:0<k)(h:k<l.length):chk p q (prev l k) (l.drop k)=(p (l.getD k d)&&(q (l.getD (k-1) d) (l.getD k d)&&chk p q (prev l (k+1)) (l.drop (k+1)))):=by
  rw[List.drop_eq_getElem_cons h]
  unfold prev
  rw[if_neg (by omega),if_neg (by omega),List.getElem?_eq_getElem (by omega),Nat.add_sub_cancel,List.getElem?_eq_getElem h]
  rw[List.getD_eq_getElem?_getD,List.getD_eq_getElem?_getD,List.getElem?_eq_getElem h,List.getElem?_eq_getElem (by omega)]
  rfl
theorem chk_end {α:Type}{p:α→Bool}{q:α→α→Bool}{l:List α}{k:Nat}(h:l.length≤k)(o:Option α):chk p q o (l.drop k)=true:=by
  rw[List.drop_eq_nil_of_le h];cases o<;>rfl
theorem getD_memA {α:Type}{l:List α}{k:Nat}{d:α}(h:k<l.length):l.getD k d∈l:=by
  rw[List.getD_eq_getElem?_getD,List.getElem?_eq_getElem h];exact List.getElem_mem h
def tagsB (l:List (D_api_Tag)):Bool:=decide (l.length≤8)&&chk tagB (λa b=>ltS a.1 b.1) none l
def TsB (n:Nat)(l:List (D_api_Tag)):Prop:=l.length<n∧∀ t∈l,TB n t
theorem tags35_J (n:Nat) (hn:n≤536870912) (l:List (D_api_Tag)) (hl:TsB n l):∀ (m k:Nat),k≤l.length→l.length-k<m →
    F_tags_Sound.J1 n m (l,l,((l.length:Nat):Int),(k:Int),())=some (chk tagB (λa b=>ltS a.1 b.1) (prev l k) (l.drop k),())
  | 0,k,_,h=>by omega
  | m + 1,k,hk,h=>by
    have hl1:=hl.1
    rw[F_tags_Sound.e1]
    simp only[hide_eq,bIf_eq,gIf_eq]
    by_cases hlt:k<l.length
    · have ih:=tags35_J n hn l hl m (k+1) (by omega) (by omega)
      rw[if_pos (decide_eq_true (by omega)),if_pos ⟨by omega,by omega⟩,Int.toNat_natCast,tag47 (hl.2 _ (getD_memA hlt)) hn,bnd_some,wrap_i64 (x:=(k:Int)+1) (by omega),show ((k:Int)+1)=((k+1:Nat):Int) by omega,ih]
      by_cases h0:k=0
      · subst h0
        rw[chk_zero (d:=Va.dflt T_api_Tag) (by omega),if_neg (c:=decide (((0:Nat):Int)>0)=true) (by simp)]
        cases tagB (l.getD 0 (Va.dflt T_api_Tag))<;>simp
      · rw[chk_succ (d:=Va.dflt T_api_Tag) (by omega) hlt,if_pos (c:=decide ((k:Int)>0)=true) (decide_eq_true (by omega)),wrap_i64 (by omega),if_pos (show 0≤(k:Int)-1∧(k:Int)-1<((l.length:Nat):Int) from ⟨by omega,by omega⟩),show ((k:Int)-1).toNat=k-1 by omega]
        cases tagB (l.getD k (Va.dflt T_api_Tag))<;>cases ltS (l.getD (k-1) (Va.dflt T_api_Tag)).1 (l.getD k (Va.dflt T_api_Tag)).1<;>simp
    · rw[if_neg (by simp;omega),chk_end (by omega)]
      rw[F_tags_Sound.e2]
theorem tags35 {n:Nat}(hn:n≤536870912){l:List (D_api_Tag)}(hl:TsB n l):F_tags_Sound.f n l=some (tagsB l,()):=by
  have h:=tags35_J n hn l hl n 0 (by omega) (by have:=hl.1;omega)
  rw[F_tags_Sound.e0]
  unfold tagsB
  simp only[hide_eq,bIf_eq]
  by_cases h8:l.length≤8
  · rw[if_neg (by simp;omega),decide_eq_true h8]
    exact h
  · rw[if_pos (decide_eq_true (by omega)),decide_eq_false h8];rfl
theorem less_tri:∀ x y:List UInt8,Op.bytesLess x y=!(Op.bytesLess y x||y==x)
  | [],[]=>rfl
  | [],_::_=>rfl
  | _::_,[]=>rfl
  | a :: x,b::y=>by
    have ih:=less_tri x y
    simp only[Op.bytesLess,List.cons_beq_cons,ih]
    by_cases h:a=b
    · subst h
      simp
    · have h1:(a==b)=false:=beq_false_of_ne h
      have h2:(b==a)=false:=beq_false_of_ne (λe=>h e.symm)
      rw[h1,h2]
      simp only[Bool.false_and,Bool.or_false]
      have h3:¬ a.toNat=b.toNat:=λe=>h (UInt8.toNat_inj.1 e)
      have h4:decide (a<b)=decide (a.toNat<b.toNat):=decide_eq_decide.2 UInt8.lt_iff_toNat_lt
      have h5:decide (b<a)=decide (b.toNat<a.toNat):=decide_eq_decide.2 UInt8.lt_iff_toNat_lt
      rw[h4,h5]
      by_cases h6:a.toNat<b.toNat
      · rw[decide_eq_true h6,decide_eq_false (by omega)];rfl
      · rw[decide_eq_false h6,decide_eq_true (by omega)];rfl
theorem ltS_tri (a b:ByteArray):ltS a b=!(ltS b a||eqS b a):=less_tri _ _
theorem tags38_J (n:Nat) (hn:n≤536870912) (h5:5≤n) (l:List (D_api_Tag)) (hl:TsB n l):∀ (m k:Nat),k≤l.length→l.length-k<m →
    F_ref08_Sound.J1 n m (l,(k:Int),())=some (chk tagB (λa b=>ltS a.1 b.1) (prev l k) (l.drop k),())
  | 0,k,_,h=>by omega
  | m + 1,k,hk,h=>by
    have hl1:=hl.1
    rw[F_ref08_Sound.e1]
    simp only[hide_eq,bIf_eq,gIf_eq]
    by_cases hlt:k<l.length
    · have ih:=tags38_J n hn h5 l hl m (k+1) (by omega) (by omega)
      have hg:(0≤(k:Int)∧(k:Int)<((l.length:Nat):Int)):=⟨by omega,by omega⟩
      obtain⟨hb1,hb2⟩:=hl.2 _ (getD_memA (d:=Va.dflt T_api_Tag) hlt)
      rw[if_pos (decide_eq_true (by omega))]
      simp only[if_pos hg,Int.toNat_natCast]
      rw[clean44 (by omega) hb1 h5,clean44 (by omega) hb2 h5,bnd_some,bnd_some,F_ref08_Sound.e2]
      simp only[hide_eq,bIf_eq,gIf_eq,F_ref08_Sound.e3,if_pos hg,Int.toNat_natCast]
      rw[wrap_i64 (x:=(k:Int)+1) (by omega),show ((k:Int)+1)=((k+1:Nat):Int) by omega,ih]
      have hx:chk tagB (λa b=>ltS a.1 b.1) (prev l k) (l.drop k)=(tagB (l.getD k (Va.dflt T_api_Tag))&&((if k=0 then true else ltS (l.getD (k-1) (Va.dflt T_api_Tag)).1 (l.getD k (Va.dflt T_api_Tag)).1)&&chk tagB (λa b=>ltS a.1 b.1) (prev l (k+1)) (l.drop (k+1)))):=by
        by_cases h0:k=0
        · subst h0
          rw[chk_zero (d:=Va.dflt T_api_Tag) (by omega),if_pos rfl,Bool.true_and]
        · rw[chk_succ (d:=Va.dflt T_api_Tag) (by omega) hlt,if_neg h0]
      rw[hx]
      have g1:decide (((l.getD k (Va.dflt T_api_Tag)).1.size:Int)<1)=!decide (1≤(l.getD k (Va.dflt T_api_Tag)).1.size):=by
        by_cases h0:1≤(l.getD k (Va.dflt T_api_Tag)).1.size
        · rw[decide_eq_true h0,decide_eq_false (by omega)];rfl
        · rw[decide_eq_false h0,decide_eq_true (by omega)];rfl
      have g2:decide (((l.getD k (Va.dflt T_api_Tag)).1.size:Int)>64)=!decide ((l.getD k (Va.dflt T_api_Tag)).1.size≤64):=by
        by_cases h0:(l.getD k (Va.dflt T_api_Tag)).1.size≤64
        · rw[decide_eq_true h0,decide_eq_false (by omega)];rfl
        · rw[decide_eq_false h0,decide_eq_true (by omega)];rfl
      have g3:decide (((l.getD k (Va.dflt T_api_Tag)).2.1.size:Int)>64)=!decide ((l.getD k (Va.dflt T_api_Tag)).2.1.size≤64):=by
        by_cases h0:(l.getD k (Va.dflt T_api_Tag)).2.1.size≤64
        · rw[decide_eq_true h0,decide_eq_false (by omega)];rfl
        · rw[decide_eq_false h0,decide_eq_true (by omega)];rfl
      simp only[g1,g2,g3]
      have hy:(if decide ((k:Int)>0)=true then if 0≤IntKind.i64.wrap ((k:Int)-1)∧IntKind.i64.wrap ((k:Int)-1)<((l.length:Nat):Int) then if (ltS (l.getD k (Va.dflt T_api_Tag)).1 (l.getD (IntKind.i64.wrap ((k:Int)-1)).toNat (Va.dflt T_api_Tag)).1||eqS (l.getD k (Va.dflt T_api_Tag)).1 (l.getD (IntKind.i64.wrap ((k:Int)-1)).toNat (Va.dflt T_api_Tag)).1)=true then some (false,()) else some (chk tagB (λa b=>ltS a.1 b.1) (prev l (k+1)) (l.drop (k+1)),()) else none else (some (chk tagB (λa b=>ltS a.1 b.1) (prev l (k+1)) (l.drop (k+1)),()):Option F_ref08_Sound.R)) =
          some ((if k=0 then true else ltS (l.getD (k-1) (Va.dflt T_api_Tag)).1 (l.getD k (Va.dflt T_api_Tag)).1)&&chk tagB (λa b=>ltS a.1 b.1) (prev l (k+1)) (l.drop (k+1)),()):=by
        by_cases h0:k=0
        · rw[if_neg (by simp;omega),if_pos h0];rfl
        · rw[if_pos (decide_eq_true (by omega)),if_neg h0,wrap_i64 (by omega),if_pos (show 0≤(k:Int)-1∧(k:Int)-1<((l.length:Nat):Int) from ⟨by omega,by omega⟩),show ((k:Int)-1).toNat=k-1 by omega,ltS_tri (l.getD (k-1) (Va.dflt T_api_Tag)).1 (l.getD k (Va.dflt T_api_Tag)).1]
          cases (ltS (l.getD k (Va.dflt T_api_Tag)).1 (l.getD (k-1) (Va.dflt T_api_Tag)).1||eqS (l.getD k (Va.dflt T_api_Tag)).1 (l.getD (k-1) (Va.dflt T_api_Tag)).1)<;>simp
      simp only[hy]
      unfold tagB
      cases decide (1≤(l.getD k (Va.dflt T_api_Tag)).1.size)<;>cases decide ((l.getD k (Va.dflt T_api_Tag)).1.size≤64)<;>cases decide ((l.getD k (Va.dflt T_api_Tag)).2.1.size≤64)<;>cases cleanB (l.getD k (Va.dflt T_api_Tag)).1<;>cases cleanB (l.getD k (Va.dflt T_api_Tag)).2.1<;>simp
    · rw[if_neg (by simp;omega),chk_end (by omega)]
      rw[F_ref08_Sound.e4]
theorem tags38 {n:Nat}(hn:n≤536870912)(h5:5≤n){l:List (D_api_Tag)}(hl:TsB n l):F_ref08_Sound.f n l=some (tagsB l,()):=by
  have h:=tags38_J n hn h5 l hl n 0 (by omega) (by have:=hl.1;omega)
  rw[F_ref08_Sound.e0]
  unfold tagsB
  simp only[hide_eq,bIf_eq]
  by_cases h8:l.length≤8
  · rw[if_neg (by simp;omega),decide_eq_true h8]
    exact h
  · rw[if_pos (decide_eq_true (by omega)),decide_eq_false h8];rfl
def keyB (s:ByteArray):Bool:=decide (1≤s.size)&&(decide (s.size≤200)&&cleanB s)
theorem key24 {n:Nat}{s:ByteArray}(hs:s.size<n)(hn:n≤536870912):F_label_Key.f n s=some (keyB s,()):=by
  rw[F_label_Key.e0]
  unfold keyB
  rw[clean42 (by omega) hs,size0]
  simp only[hide_eq,bIf_eq,bnd_some]
  have e1:decide ((s.size:Int)≤200)=decide (s.size≤200):=decide_eq_decide.2 (by omega)
  have e0:(!decide (s.size=0))=decide (1≤s.size):=by
    by_cases h0:s.size=0
    · rw[decide_eq_true h0,decide_eq_false (by omega)];rfl
    · rw[decide_eq_false h0,decide_eq_true (by omega)];rfl
  rw[e0,e1]
  cases decide (1≤s.size)<;>cases decide (s.size≤200)<;>simp
theorem key30 {n:Nat}{s:ByteArray}(hs:s.size<n)(hn:n≤536870912)(h5:5≤n):F_ref06_Key.f n s=some (keyB s,()):=by
  rw[F_ref06_Key.e0]
  unfold keyB
  rw[clean44 (by omega) hs h5]
  simp only[hide_eq,bIf_eq,bnd_some]
  have e1:decide ((s.size:Int)≤200)=decide (s.size≤200):=decide_eq_decide.2 (by omega)
  have e0:decide ((s.size:Int)≥1)=decide (1≤s.size):=decide_eq_decide.2 (by omega)
  rw[e0,e1]
  cases decide (1≤s.size)<;>cases decide (s.size≤200)<;>simp
end Go.Proofs.YtemhlkdingkjnaaGreatDoor
namespace Go.Proofs.YtemhlkdingkjnaaGreatDoor
open Go Go.Va Go.Proofs
abbrev Ver:Type:=D_api_Version
def mark (v:Ver):Bool:=v.2.1
def vsize (v:Ver):Int:=v.2.2.1
def blob (v:Ver):Int:=v.2.2.2.1
def dig (v:Ver):List Int:=v.2.2.2.2.1
def made (v:Ver):Int:=v.2.2.2.2.2.1
def lock (v:Ver):D_api_Lock:=v.2.2.2.2.2.2.1
def tags (v:Ver):List (D_api_Tag):=v.2.2.2.2.2.2.2.1
theorem z_pos (z:Int):decide (z>0)=decide (1≤z):=decide_eq_decide.2 (by omega)
theorem z_eq (z:Int)(h:0≤z):(z==0)=!decide (1≤z):=by
  by_cases h1:z=0
  · subst h1;rfl
  · rw[decide_eq_true (by omega),beq_false_of_ne h1];rfl
theorem z_lt (z:Int):decide (z<1)=!decide (1≤z):=by
  by_cases h:1≤z
  · rw[decide_eq_true h,decide_eq_false (by omega)];rfl
  · rw[decide_eq_false h,decide_eq_true (by omega)];rfl
theorem z_gt (x y:Int):decide (x>y)=!decide (x≤y):=by
  rw[← decide_not];exact decide_eq_decide.2 (by omega)
theorem z_ge2 (x y:Int):decide (x≥y)=!decide (x<y):=by
  rw[← decide_not];exact decide_eq_decide.2 (by omega)
def verB (v:Ver):Bool:=
  decide (1≤v.1)&&(decide (made v=clampI (made v)) &&
    if mark v=true then (vsize v==0)&&((blob v==0)&&((dig v).all (· == 0)&&(((lock v).1==0&&((lock v).2.1==0&&!(lock v).2.2.1))&&decide ((tags v).length=0))))
    else decide (0≤vsize v)&&(decide (vsize v≤16384)&&(decide (1≤blob v)&&(lockB (lock v)&&tagsB (tags v)))))
structure VB (n:Nat)(v:Ver):Prop where
  id:0≤v.1
  blob:0≤blob v
  dig:(dig v).length=32
  tags:TsB n (tags v)
theorem zeroD:∀ (k:Nat) (d:List Int),d.length=k→eqD (.arr k (.int .u8)) d (List.replicate k 0)=d.all (· == 0)
  | 0,[],_=>rfl
  | k+1,x::d,h=>by
    have ih:=zeroD k d (by simpa using h)
    change (decide (x=0)&&eqD (.arr k (.int .u8)) d (List.replicate k 0))=((x==0)&&d.all (· == 0))
    rw[ih];rfl
theorem ver18 {n:Nat} (hn:n≤536870912) {v:Ver} (hv:VB n v):F_object_Good.f n v=some (verB v,()):=by
  rw[F_object_Good.e0]
  simp only[hide_eq,bIf_eq,clamp33,bnd_some]
  rw[F_object_Good.e1]
  have ht:=tags35 hn hv.tags
  unfold tags at ht
  rw[lock34,ht]
  simp only[hide_eq,bIf_eq,bnd_some]
  have hz:eqD (.arr 32 (.int .u8)) v.2.2.2.2.1 ([]++List.replicate (32-([]:List Int).length) 0)=(dig v).all (· == 0):=zeroD 32 _ hv.dig
  rw[hz]
  have hl:eqD T_api_Lock v.2.2.2.2.2.2.1 (0,(0,(false,())))=((lock v).1==0&&((lock v).2.1==0&&!(lock v).2.2.1)):=by
    change (decide ((lock v).1=0)&&(decide ((lock v).2.1=0)&&(((lock v).2.2.1==false)&&true)))=_
    cases (lock v).2.2.1<;>rfl
  rw[hl]
  have h0:=hv.id
  have hb:=hv.blob
  have e2:(((v.2.2.2.2.2.2.2.1.length:Nat):Int)==0)=decide ((tags v).length=0):=by
    change (((tags v).length:Int)==0)=_
    cases (tags v).length<;>rfl
  rw[e2]
  have e3:decide (v.2.2.2.1>0)=decide (1≤blob v):=z_pos (blob v)
  have e4:(v.1==0)=!decide (1≤v.1):=z_eq v.1 h0
  have e5:(v.2.2.2.2.2.1 != clampI v.2.2.2.2.2.1)=!decide (made v=clampI (made v)):=rfl
  simp only[e3,e4,e5]
  unfold verB
  change (if (!decide (1≤v.1))=true then _ else if (!decide (made v=clampI (made v)))=true then _ else if mark v=true then _ else _)=_
  cases decide (1≤v.1)
  · rfl
  · cases decide (made v=clampI (made v))
    · rfl
    · cases hm:mark v
      · change (if decide (0≤vsize v)=true then if decide (vsize v≤16384)=true then _ else _ else _)=_
        change (if decide (0≤vsize v)=true then if decide (vsize v≤16384)=true then if decide (1≤blob v)=true then if lockB (lock v)=true then some (tagsB (tags v),()) else some (false,()) else some (false,()) else some (false,()) else (some (false,()):Option F_object_Good.R))=_
        cases decide (0≤vsize v)<;>cases decide (vsize v≤16384)<;>cases decide (1≤blob v)<;>cases lockB (lock v)<;>rfl
      · change (if (vsize v==0)=true then if (blob v==0)=true then if (dig v).all (· == 0)=true then if ((lock v).1==0&&((lock v).2.1==0&&!(lock v).2.2.1))=true then some (decide ((tags v).length=0),()) else some (false,()) else some (false,()) else some (false,()) else (some (false,()):Option F_object_Good.R))=_
        cases (vsize v==0)<;>cases (blob v==0)<;>cases (dig v).all (· == 0)<;>cases ((lock v).1==0&&((lock v).2.1==0&&!(lock v).2.2.1))<;>rfl
def rest19 (v:Ver):Bool:=(vsize v==0)&&((blob v==0)&&(((lock v).1==0&&((lock v).2.1==0&&!(lock v).2.2.1))&&decide ((tags v).length=0)))
theorem rest19_eq (n:Nat)(v:Ver):F_ref13_Good.J3 n (v,())=some (rest19 v,()):=by
  rw[F_ref13_Good.e3]
  unfold rest19
  simp only[hide_eq,bIf_eq]
  have e2:(((v.2.2.2.2.2.2.2.1.length:Nat):Int)==0)=decide ((tags v).length=0):=by
    change (((tags v).length:Int)==0)=_
    cases (tags v).length<;>rfl
  rw[e2]
  change (if (vsize v==0)=true then if (blob v==0)=true then if ((lock v).1==0)=true then if ((lock v).2.1==0)=true then if (!(lock v).2.2.1)=true then some (decide ((tags v).length=0),()) else some (false,()) else some (false,()) else some (false,()) else some (false,()) else (some (false,()):Option F_ref13_Good.R))=_
  cases (vsize v==0)<;>cases (blob v==0)<;>cases ((lock v).1==0)<;>cases ((lock v).2.1==0)<;>cases (lock v).2.2.1<;>rfl
theorem dig19_J (n:Nat) (v:Ver) (hd:(dig v).length=32):∀ (m k:Nat),k≤32→32-k<m →
    F_ref13_Good.J2 n m ((k:Int),v,())=some (((dig v).drop k).all (· == 0)&&rest19 v,())
  | 0,k,_,h=>by omega
  | m + 1,k,hk,h=>by
    rw[F_ref13_Good.e2]
    simp only[hide_eq,bIf_eq,gIf_eq]
    by_cases hlt:k<32
    · have ih:=dig19_J n v hd m (k+1) (by omega) (by omega)
      rw[if_pos (decide_eq_true (by omega)),if_pos ⟨by omega,by omega⟩,Int.toNat_natCast,wrap_i64 (x:=(k:Int)+1) (by omega),show ((k:Int)+1)=((k+1:Nat):Int) by omega,ih]
      have hk':k<(dig v).length:=by rw[hd];exact hlt
      rw[List.drop_eq_getElem_cons hk',List.all_cons]
      have e4:List.getD v.2.2.2.2.1 k 0=(dig v)[k]'hk':=by
        change (dig v).getD k 0=_
        rw[List.getD_eq_getElem?_getD,List.getElem?_eq_getElem hk'];rfl
      rw[e4]
      cases hx:((dig v)[k]'hk'==0)
      · rw[if_pos (by simp[bne,hx])];rfl
      · rw[if_neg (by simp[bne,hx])];rfl
    · rw[if_neg (by simp;omega),rest19_eq,List.drop_eq_nil_of_le (by omega)]
      rfl
theorem ver19 {n:Nat} (hn:n≤536870912) (h5:40≤n) {v:Ver} (hv:VB n v):F_ref13_Good.f n v=some (verB v,()):=by
  rw[F_ref13_Good.e0]
  have hd:=dig19_J n v hv.dig n 0 (by omega) (by omega)
  simp only[hide_eq,bIf_eq,clamp36,bnd_some]
  rw[F_ref13_Good.e1]
  have ht:=tags38 hn (by omega) hv.tags
  unfold tags at ht
  rw[lock37,ht]
  simp only[hide_eq,bIf_eq,bnd_some]
  have hd':F_ref13_Good.J2 n n (0,v,())=some ((dig v).all (· == 0)&&rest19 v,()):=hd
  rw[hd']
  have e4:decide (v.1<1)=!decide (1≤v.1):=z_lt v.1
  have e5:(clampI v.2.2.2.2.2.1 != v.2.2.2.2.2.1)=!decide (made v=clampI (made v)):=by
    unfold bne;rw[BEq.comm];rfl
  simp only[e4,e5]
  unfold verB
  change (if (!decide (1≤v.1))=true then _ else if (!decide (made v=clampI (made v)))=true then _ else if (!mark v)=true then _ else _)=_
  cases decide (1≤v.1)
  · rfl
  · cases decide (made v=clampI (made v))
    · rfl
    · cases hm:mark v
      · change (if decide (0≤vsize v)=true then if decide (vsize v≤16384)=true then if decide (1≤blob v)=true then if lockB (lock v)=true then some (tagsB (tags v),()) else some (false,()) else some (false,()) else some (false,()) else (some (false,()):Option F_ref13_Good.R))=_
        cases decide (0≤vsize v)<;>cases decide (vsize v≤16384)<;>cases decide (1≤blob v)<;>cases lockB (lock v)<;>rfl
      · change some ((dig v).all (· == 0)&&rest19 v,())=_
        unfold rest19
        cases (vsize v==0)<;>cases (blob v==0)<;>cases (dig v).all (· == 0)<;>cases ((lock v).1==0&&((lock v).2.1==0&&!(lock v).2.2.1))<;>rfl
end Go.Proofs.YtemhlkdingkjnaaGreatDoor
namespace Go.Proofs.YtemhlkdingkjnaaGreatDoor
open Go Go.Va Go.Proofs
theorem bIf_true {α:Type}(x y:α):bIf true x y=x:=rfl
theorem bIf_false {α:Type}(x y:α):bIf false x y=y:=rfl
theorem bIf_and (a b:Bool):bIf a (some (b,())) (some (false,()))=some (a&&b,()):=by cases a<;>rfl
theorem bIf_bool (a:Bool):bIf a (some (true,())) (some (false,()))=some (a,()):=by cases a<;>rfl
theorem all_loop {α R:Type}{l:List α}(d:α)(p:α→Bool)(J:Nat→Int→Option R)(yes no:Option R)
    (hs:∀ m (k:Nat),k<l.length→J (m+1) (k:Int)=bIf (p (l.getD k d)) (J m ((k+1:Nat):Int)) no) (he:∀ m,J (m+1) ((l.length:Nat):Int)=yes) :
    ∀ (m k:Nat),k≤l.length→l.length-k<m→J m (k:Int)=bIf ((l.drop k).all p) yes no
  | 0,k,_,h=>by omega
  | m + 1,k,hk,h=>by
    by_cases hlt:k<l.length
    · rw[hs m k hlt,all_loop d p J yes no hs he m (k+1) (by omega) (by omega),List.drop_eq_getElem_cons hlt,List.all_cons,List.getD_eq_getElem?_getD,List.getElem?_eq_getElem hlt]
      simp only[Option.getD_some]
      cases p l[k]<;>rfl
    · have:k=l.length:=by omega
      subst this
      rw[he,List.drop_length];rfl
theorem idx_loop {α:Type}{l:List α}(d:α)(p:α→Bool)(J:Nat→Int→Option (Int×Unit))
    (hs:∀ m (k:Nat),k<l.length→J (m+1) (k:Int)=bIf (p (l.getD k d)) (some ((k:Int),())) (J m ((k+1:Nat):Int))) (he:∀ m,J (m+1) ((l.length:Nat):Int)=some (-1,())) :
    ∀ (m k:Nat),k≤l.length→l.length-k<m→∃ i,J m (k:Int)=some (i,())∧decide (i≥0)=(l.drop k).any p
  | 0,k,_,h=>by omega
  | m + 1,k,hk,h=>by
    by_cases hlt:k<l.length
    · obtain⟨i,h1,h2⟩:=idx_loop d p J hs he m (k+1) (by omega) (by omega)
      rw[hs m k hlt,List.drop_eq_getElem_cons hlt,List.any_cons,List.getD_eq_getElem?_getD,List.getElem?_eq_getElem hlt]
      simp only[Option.getD_some]
      cases p l[k]
      · exact⟨i,h1,by rw[h2];rfl⟩
      · exact⟨_,rfl,by simp⟩
    · have:k=l.length:=by omega
      subst this
      rw[he,List.drop_length]
      exact⟨_,rfl,rfl⟩
theorem cast_up (k:Nat)(h:k<4611686018427387904):IntKind.i64.wrap ((k:Int)+1)=((k+1:Nat):Int):=by rw[wrap_i64 (by omega)];omega
theorem dec_not {p q:Prop} [Decidable p] [Decidable q](h:p↔¬ q):decide p=!decide q:=by rw[← decide_not];exact decide_eq_decide.2 h
def modeB (d:D_api_Default):Bool:=if d.1=0 then d.2.1==0 else (d.1==1||d.1==2)&&(decide (d.2.1≥1)&&decide (d.2.1≤36500))
theorem mode_Good (n:Nat)(d:D_api_Default):F_mode_Good.f n d=some (modeB d,()):=by
  rw[F_mode_Good.e0]
  simp only[F_mode_Good.e1,hide_eq,bIf_and]
  unfold modeB
  by_cases h0:d.1=0
  · simp[h0,bIf_true]
  · rw[beq_false_of_ne h0,bIf_false,if_neg h0]
    cases (d.1==1)<;>rfl
theorem ref12_Good (n:Nat)(d:D_api_Default):F_ref12_Good.f n d=some (modeB d,()):=by
  rw[F_ref12_Good.e0]
  simp only[hide_eq,bIf_and]
  unfold modeB
  by_cases h0:d.1=0
  · simp[h0,bIf_true]
  · rw[beq_false_of_ne h0,bIf_false,if_neg h0]
    cases (d.1==1)<;>rfl
def globL:List UInt8→Bool
  | []=>true
  | c::r=>if c=92 then match r with
    | []=>false
    | _::r'=>globL r'
    else globL r
def globB (p:ByteArray):Bool:=decide (p.size≤200)&&globL p.data.toList
theorem globL_cons {c:UInt8}{r:List UInt8}(h:c≠92):globL (c::r)=globL r:=by rw[globL.eq_def];simp only[if_neg h]
theorem globL_q (b:UInt8)(r:List UInt8):globL (92::b::r)=globL r:=by rw[globL.eq_def];simp
theorem globL_end:globL [92]=false:=by rw[globL.eq_def];simp
theorem drop_getD (l:List UInt8){k:Nat}(h:k<l.length):l.drop k=l.getD k 0::l.drop (k+1):=by
  rw[List.drop_eq_getElem_cons h,List.getD_eq_getElem?_getD,List.getElem?_eq_getElem h];rfl
theorem u8_eq {b:UInt8}{c:Nat}(hc:c<256):((b.toNat:Int)==(c:Int))=decide (b=UInt8.ofNat c):=by
  have:=b.toNat_lt
  by_cases h:b=UInt8.ofNat c
  · subst h;rw[decide_eq_true rfl];simp[UInt8.toNat_ofNat'];omega
  · rw[decide_eq_false h]
    refine beq_false_of_ne (λe=>h ?_)
    apply UInt8.toNat_inj.1
    simp[UInt8.toNat_ofNat']
    omega
theorem glob_J (n:Nat) (p:ByteArray) (hp:p.size≤200):∀ (m k:Nat) (out:List D_glob_piece),k≤p.size→p.size-k<m→out.length≤k →
    ∃ o,F_glob_pieces.J1 n m (p,out,(k:Int),())=some (o,globL (p.data.toList.drop k),())
  | 0,k,out,_,h,_=>by omega
  | m + 1, k, out,hk,h,ho=>by
    have hsz:=size_eq p
    rw[F_glob_pieces.e1]
    simp only[hide_eq]
    by_cases hlt:k<p.size
    · have hd := drop_getD p.data.toList (k:=k) (by omega)
      rw[decide_eq_true (by omega),bIf_true,gIf_pos ⟨by omega,by omega⟩,bt_nat,hd]
      have hg:∀ o:List D_glob_piece,o.length≤k+1→(o.length+1)*16≤70368744177664:=λo h'=>by omega
      have e1:(((p.data.toList.getD k 0).toNat:Int)==42)=decide (p.data.toList.getD k 0=42):=u8_eq (c:=42) (by decide)
      have e2:(((p.data.toList.getD k 0).toNat:Int)==63)=decide (p.data.toList.getD k 0=63):=u8_eq (c:=63) (by decide)
      have e3:(((p.data.toList.getD k 0).toNat:Int)==92)=decide (p.data.toList.getD k 0=92):=u8_eq (c:=92) (by decide)
      rw[e1,e2,e3]
      generalize p.data.toList.getD k 0=c
      have st:∀ o:List D_glob_piece,o.length≤k+1→∃ o',F_glob_pieces.J3 n m (p,o,(k:Int),())=some (o',globL (p.data.toList.drop (k+1)),()):=λo h'=>by
        rw[F_glob_pieces.e3,cast_up k (by omega)]
        exact glob_J n p hp m (k+1) o (by omega) (by omega) h'
      by_cases h1:c=42
      · rw[decide_eq_true h1,bIf_true,gIf_pos (hg out (by omega)),globL_cons (by rw[h1];decide)]
        exact st _ (by simp;omega)
      · rw[decide_eq_false h1,bIf_false]
        by_cases h2:c=63
        · rw[decide_eq_true h2,bIf_true,gIf_pos (hg out (by omega)),globL_cons (by rw[h2];decide)]
          exact st _ (by simp;omega)
        · rw[decide_eq_false h2,bIf_false]
          by_cases h3:c=92
          · rw[decide_eq_true h3,bIf_true,cast_up k (by omega),h3]
            by_cases h4:k+1=p.size
            · rw[beq_iff_eq.2 (by omega),bIf_true,List.drop_eq_nil_of_le (by omega),globL_end]
              exact⟨_,rfl⟩
            · rw[beq_false_of_ne (by omega),bIf_false,F_glob_pieces.e2,gIf_pos ⟨by omega,by omega⟩,gIf_pos (hg out (by omega)),F_glob_pieces.e3,cast_up (k+1) (by omega),drop_getD p.data.toList (k:=k+1) (by omega),globL_q]
              exact glob_J n p hp m (k+1+1) _ (by omega) (by omega) (by simp;omega)
          · rw[decide_eq_false h3,bIf_false,F_glob_pieces.e2,gIf_pos ⟨by omega,by omega⟩,gIf_pos (hg out (by omega)),globL_cons h3]
            exact st _ (by simp;omega)
    · have hkk:k=p.size:=by omega
      subst hkk
      rw[decide_eq_false (by omega),bIf_false,F_glob_pieces.e4,hsz,List.drop_length]
      exact⟨_,rfl⟩
theorem glob_Sound {n:Nat}{p:ByteArray}(hp:p.size<n):F_glob_Sound.f n p=some (globB p,()):=by
  rw[F_glob_Sound.e0,F_glob_pieces.e0]
  simp only[hide_eq]
  unfold globB
  by_cases h:p.size≤200
  · rw[decide_eq_false (by omega),bIf_false,decide_eq_true h]
    obtain⟨o,ho⟩:=glob_J n p h n 0 [] (by omega) (by omega) (by simp)
    rw[show ((0:Nat):Int)=0 from rfl]at ho
    rw[ho];rfl
  · rw[decide_eq_true (by omega),decide_eq_false h];rfl
theorem glob7_J (n:Nat) (p:ByteArray) (hp:p.size≤200):∀ (m k:Nat) (out:List D_glob_piece),k≤p.size→p.size-k<m→out.length≤k →
    ∃ o,F_ref07_pieces.J1 n m (p,out,(k:Int),())=some (o,globL (p.data.toList.drop k),())
  | 0,k,out,_,h,_=>by omega
  | m + 1, k, out,hk,h,ho=>by
    have hsz:=size_eq p
    rw[F_ref07_pieces.e1]
    simp only[hide_eq]
    by_cases hlt:k<p.size
    · have hd := drop_getD p.data.toList (k:=k) (by omega)
      rw[decide_eq_true (by omega),bIf_true,gIf_pos ⟨by omega,by omega⟩,bt_nat,hd]
      have hg:∀ o:List D_glob_piece,o.length≤k+1→(o.length+1)*16≤70368744177664:=λo h'=>by omega
      have e1:(((p.data.toList.getD k 0).toNat:Int)==42)=decide (p.data.toList.getD k 0=42):=u8_eq (c:=42) (by decide)
      have e2:(((p.data.toList.getD k 0).toNat:Int)==63)=decide (p.data.toList.getD k 0=63):=u8_eq (c:=63) (by decide)
      have e3:(((p.data.toList.getD k 0).toNat:Int)==92)=decide (p.data.toList.getD k 0=92):=u8_eq (c:=92) (by decide)
      rw[e1,e2,e3]
      generalize p.data.toList.getD k 0=c
      have st:∀ o:List D_glob_piece,o.length≤k+1→∃ o',F_ref07_pieces.J2 n m (p,o,(k:Int),())=some (o',globL (p.data.toList.drop (k+1)),()):=λo h'=>by
        rw[F_ref07_pieces.e2,cast_up k (by omega)]
        exact glob7_J n p hp m (k+1) o (by omega) (by omega) h'
      by_cases h1:c=42
      · rw[decide_eq_true h1,bIf_true,gIf_pos (hg out (by omega)),globL_cons (by rw[h1];decide)]
        exact st _ (by simp;omega)
      · rw[decide_eq_false h1,bIf_false]
        by_cases h2:c=63
        · rw[decide_eq_true h2,bIf_true,gIf_pos (hg out (by omega)),globL_cons (by rw[h2];decide)]
          exact st _ (by simp;omega)
        · rw[decide_eq_false h2,bIf_false]
          by_cases h3:c=92
          · rw[decide_eq_true h3,bIf_true,cast_up k (by omega),wrap_i64 (x:=(p.size:Int)-1) (by omega),h3]
            by_cases h4:k+1=p.size
            · rw[beq_iff_eq.2 (by omega),bIf_true,List.drop_eq_nil_of_le (by omega),globL_end]
              exact⟨_,rfl⟩
            · rw[beq_false_of_ne (by omega),bIf_false,gIf_pos ⟨by omega,by omega⟩,gIf_pos (hg out (by omega)),F_ref07_pieces.e2,cast_up (k+1) (by omega),drop_getD p.data.toList (k:=k+1) (by omega),globL_q]
              exact glob7_J n p hp m (k+1+1) _ (by omega) (by omega) (by simp;omega)
          · rw[decide_eq_false h3,bIf_false,gIf_pos ⟨by omega,by omega⟩,gIf_pos (hg out (by omega)),globL_cons h3]
            exact st _ (by simp;omega)
    · have hkk:k=p.size:=by omega
      subst hkk
      rw[decide_eq_false (by omega),bIf_false,F_ref07_pieces.e3,hsz,List.drop_length]
      exact⟨_,rfl⟩
theorem ref07_Sound {n:Nat}{p:ByteArray}(hp:p.size<n):F_ref07_Sound.f n p=some (globB p,()):=by
  rw[F_ref07_Sound.e0,F_ref07_pieces.e0]
  simp only[hide_eq]
  unfold globB
  by_cases h:p.size≤200
  · rw[decide_eq_false (by omega),bIf_false,decide_eq_true h]
    obtain⟨o,ho⟩:=glob7_J n p h n 0 [] (by omega) (by omega) (by simp)
    rw[show ((0:Nat):Int)=0 from rfl]at ho
    rw[ho];rfl
  · rw[decide_eq_true (by omega),decide_eq_false h];rfl
def partB (p:D_api_Part):Bool:=decide (p.1≥1)&&(decide (p.1≤10000)&&(decide (p.2.1≥0)&&(decide (p.2.1≤1024)&&decide (p.2.2.1≥1))))
theorem entry_Part (n:Nat)(p:D_api_Part):F_entry_Part.f n p=some (partB p,()):=by
  rw[F_entry_Part.e0];simp only[hide_eq,bIf_and];rfl
theorem ref14_Part (n:Nat)(p:D_api_Part):F_ref14_Part.f n p=some (partB p,()):=by
  rw[F_ref14_Part.e0];simp only[hide_eq,bIf_and];rfl
def ruleB (r:D_api_Rule):Bool:=decide (r.1.size≤200)&&(cleanB r.1&&(tagsB r.2.1&&(decide (r.2.2.1≥0)&&(decide (r.2.2.1≤36500)&&(decide (r.2.2.2.1≥0)&&decide (r.2.2.2.1≤36500))))))
structure RuB (n:Nat)(r:D_api_Rule):Prop where
  pre:r.1.size<n
  tags:TsB n r.2.1
theorem dec_cast (a b:Nat):decide ((a:Int)≤(b:Int))=decide (a≤b):=decide_eq_decide.2 (by omega)
theorem entry_Rule {n:Nat}(hn:n≤536870912){r:D_api_Rule}(hr:RuB n r):F_entry_Rule.f n r=some (ruleB r,()):=by
  have h1:=hr.pre
  rw[F_entry_Rule.e0,clean42 (by omega) h1,tags35 hn hr.tags]
  simp only[hide_eq,bnd_some,bIf_and]
  rw[show (200:Int)=((200:Nat):Int) from rfl,dec_cast];rfl
def rulesB (l:List D_api_Rule):Bool:=decide (l.length≤8)&&l.all ruleB
structure RusB (n:Nat)(l:List D_api_Rule):Prop where
  len:l.length<n
  all:∀ r∈l,RuB n r
theorem any_not {α:Type}(p:α→Bool):∀ l:List α,(!l.any λx=>!p x)=l.all p
  | []=>rfl
  | x::l=>by
    have:=any_not p l
    simp only[List.any_cons,List.all_cons,Bool.not_or,Bool.not_not,this]
theorem entry_Rules {n:Nat}(hn:n≤536870912){l:List D_api_Rule}(hl:RusB n l):F_entry_Rules.f n l=some (rulesB l,()):=by
  have hlen:=hl.len
  obtain⟨i,h1,h2⟩:=idx_loop (l:=l) (Va.dflt T_api_Rule) (λr=>!ruleB r) (λm k=>F_slices_IndexFunc_Rule.J1 n m (l,((l.length:Nat):Int),k,()))
    (λm k hk=>by
      try dsimp only
      rw[F_slices_IndexFunc_Rule.e1,hide_eq,decide_eq_true (by omega),bIf_true,gIf_pos ⟨by omega,by omega⟩,Int.toNat_natCast,F_entry_Rules_1.e0,entry_Rule hn (hl.all _ (getD_memA hk)),cast_up k (by omega)];rfl)
    (λm=>by
      try dsimp only
      rw[F_slices_IndexFunc_Rule.e1,hide_eq,decide_eq_false (by omega),bIf_false,F_slices_IndexFunc_Rule.e2]) n 0 (by omega) (by omega)
  rw[F_entry_Rules.e0,F_slices_ContainsFunc_Rule.e0,F_slices_IndexFunc_Rule.e0]
  try dsimp only at h1
  rw[show ((0:Nat):Int)=0 from rfl]at h1
  rw[h1]
  simp only[hide_eq,bnd_some,bIf_and]
  rw[h2,List.drop_zero,any_not,show (8:Int)=((8:Nat):Int) from rfl,dec_cast];rfl
theorem ref14_Rules {n:Nat}(hn:n≤536870912)(h5:5≤n){l:List D_api_Rule}(hl:RusB n l):F_ref14_Rules.f n l=some (rulesB l,()):=by
  have hlen:=hl.len
  have h1:=all_loop (l:=l) (Va.dflt T_api_Rule) ruleB (λm k=>F_ref14_Rules.J1 n m (l,k,())) (some (true,())) (some (false,()))
    (λm k hk=>by
      have hr:=hl.all _ (getD_memA (d:=Va.dflt T_api_Rule) hk)
      have hp:=hr.pre
      try dsimp only
      rw[F_ref14_Rules.e1,hide_eq,decide_eq_true (by omega),bIf_true,gIf_pos ⟨by omega,by omega⟩,Int.toNat_natCast]
      generalize hx:l.getD k (Va.dflt T_api_Rule)=r at hr hp
      rw[clean44 (by omega) hp h5,tags38 hn h5 hr.tags]
      simp only[hide_eq,bnd_some]
      rw[F_ref14_Rules.e2,cast_up k (by omega)]
      unfold ruleB
      have a1:decide ((r.1.size:Int)>200)=!decide (r.1.size≤200):=dec_not (by omega)
      have a2:decide (r.2.2.1<0)=!decide (r.2.2.1≥0):=dec_not (by omega)
      have a3:decide (r.2.2.1>36500)=!decide (r.2.2.1≤36500):=dec_not (by omega)
      have a4:decide (r.2.2.2.1<0)=!decide (r.2.2.2.1≥0):=dec_not (by omega)
      have a5:decide (r.2.2.2.1>36500)=!decide (r.2.2.2.1≤36500):=dec_not (by omega)
      rw[a1,a2,a3,a4,a5]
      cases decide (r.1.size≤200)<;>cases cleanB r.1<;>cases tagsB r.2.1<;>cases decide (r.2.2.1≥0)<;>cases decide (r.2.2.1≤36500)<;>cases decide (r.2.2.2.1≥0)<;>cases decide (r.2.2.2.1≤36500)<;>rfl)
    (λm=>by
      try dsimp only
      rw[F_ref14_Rules.e1,hide_eq,decide_eq_false (by omega),bIf_false,F_ref14_Rules.e3]) n 0 (by omega) (by omega)
  rw[F_ref14_Rules.e0,hide_eq]
  unfold rulesB
  by_cases h8:l.length≤8
  · rw[decide_eq_false (by omega),bIf_false,decide_eq_true h8]
    try dsimp only at h1
    rw[show ((0:Nat):Int)=0 from rfl]at h1
    rw[h1,List.drop_zero,bIf_bool];rfl
  · rw[decide_eq_true (by omega),decide_eq_false h8];rfl
def grantB (g:D_api_Grant):Bool:=globB g.2.1&&(globB g.2.2.1&&globB g.2.2.2.1)
structure GrB (n:Nat)(g:D_api_Grant):Prop where
  a:g.2.1.size<n
  b:g.2.2.1.size<n
  c:g.2.2.2.1.size<n
def grantsB (l:List D_api_Grant):Bool:=decide (l.length≤8)&&l.all grantB
structure GrsB (n:Nat)(l:List D_api_Grant):Prop where
  len:l.length<n
  all:∀ r∈l,GrB n r
theorem entry_Grants {n:Nat}(hn:n≤536870912){l:List D_api_Grant}(hl:GrsB n l):F_entry_Grants.f n l=some (grantsB l,()):=by
  have hlen:=hl.len
  obtain⟨i,h1,h2⟩:=idx_loop (l:=l) (Va.dflt T_api_Grant) (λr=>!grantB r) (λm k=>F_slices_IndexFunc_Grant.J1 n m (l,((l.length:Nat):Int),k,()))
    (λm k hk=>by
      have hr:=hl.all _ (getD_memA (d:=Va.dflt T_api_Grant) hk)
      try dsimp only
      rw[F_slices_IndexFunc_Grant.e1,hide_eq,decide_eq_true (by omega),bIf_true,gIf_pos ⟨by omega,by omega⟩,Int.toNat_natCast,F_entry_Grants_1.e0]
      generalize hx:l.getD k (Va.dflt T_api_Grant)=r at hr
      rw[glob_Sound hr.a,glob_Sound hr.b,glob_Sound hr.c,cast_up k (by omega)]
      simp only[bnd_some]
      unfold grantB
      cases globB r.2.1<;>cases globB r.2.2.1<;>cases globB r.2.2.2.1<;>rfl)
    (λm=>by
      try dsimp only
      rw[F_slices_IndexFunc_Grant.e1,hide_eq,decide_eq_false (by omega),bIf_false,F_slices_IndexFunc_Grant.e2]) n 0 (by omega) (by omega)
  rw[F_entry_Grants.e0,F_slices_ContainsFunc_Grant.e0,F_slices_IndexFunc_Grant.e0]
  try dsimp only at h1
  rw[show ((0:Nat):Int)=0 from rfl]at h1
  rw[h1]
  simp only[hide_eq,bnd_some,bIf_and]
  rw[h2,List.drop_zero,any_not,show (8:Int)=((8:Nat):Int) from rfl,dec_cast];rfl
theorem ref14_Grants {n:Nat}(hn:n≤536870912){l:List D_api_Grant}(hl:GrsB n l):F_ref14_Grants.f n l=some (grantsB l,()):=by
  have hlen:=hl.len
  have h1:=all_loop (l:=l) (Va.dflt T_api_Grant) grantB (λm k=>F_ref14_Grants.J1 n m (l,k,())) (some (true,())) (some (false,()))
    (λm k hk=>by
      have hr:=hl.all _ (getD_memA (d:=Va.dflt T_api_Grant) hk)
      have hg:(0≤(k:Int)∧(k:Int)<((l.length:Nat):Int)):=⟨by omega,by omega⟩
      try dsimp only
      rw[F_ref14_Grants.e1,hide_eq,decide_eq_true (by omega),bIf_true]
      simp only[gIf_pos hg,Int.toNat_natCast]
      generalize hx:l.getD k (Va.dflt T_api_Grant)=r at hr
      rw[ref07_Sound hr.a,ref07_Sound hr.b,ref07_Sound hr.c,F_ref14_Grants.e2,cast_up k (by omega)]
      simp only[bnd_some]
      unfold grantB
      cases globB r.2.1<;>cases globB r.2.2.1<;>cases globB r.2.2.2.1<;>rfl)
    (λm=>by
      try dsimp only
      rw[F_ref14_Grants.e1,hide_eq,decide_eq_false (by omega),bIf_false,F_ref14_Grants.e3]) n 0 (by omega) (by omega)
  rw[F_ref14_Grants.e0,hide_eq]
  unfold grantsB
  by_cases h8:l.length≤8
  · rw[decide_eq_false (by omega),bIf_false,decide_eq_true h8]
    try dsimp only at h1
    rw[show ((0:Nat):Int)=0 from rfl]at h1
    rw[h1,List.drop_zero,bIf_bool];rfl
  · rw[decide_eq_true (by omega),decide_eq_false h8];rfl
end Go.Proofs.YtemhlkdingkjnaaGreatDoor
namespace Go.Proofs.YtemhlkdingkjnaaGreatDoor
open Go Go.Va Go.Proofs
def lowB (b:UInt8):Bool:=(decide (97≤b.toNat)&&decide (b.toNat≤122))||(decide (48≤b.toNat)&&decide (b.toNat≤57))
def digB (b:UInt8):Bool:=decide (48≤b.toNat)&&decide (b.toNat≤57)
def lowT:List UInt8:=[97,98,99,100,101,102,103,104,105,106,107,108,109,110,111,112,113,114,115,116,117,118,119,120,121,122,48,49,50,51,52,53,54,55,56,57]
def digT:List UInt8:=[48,49,50,51,52,53,54,55,56,57]
theorem low_all:∀ n,n<256→(decide (Lib.indexByte lowT (UInt8.ofNat n)≥0)=lowB (UInt8.ofNat n)∧digT.contains (UInt8.ofNat n)=digB (UInt8.ofNat n)):=by decide +kernel
theorem ofNat_toNat (b:UInt8):UInt8.ofNat b.toNat=b:=by simp
theorem low_idx (b:UInt8):decide (Lib.indexByte lowT b≥0)=lowB b:=by
  have:=(low_all b.toNat b.toNat_lt).1;rwa [ofNat_toNat]at this
theorem dig_has (b:UInt8):digT.contains b=digB b:=by
  have:=(low_all b.toNat b.toNat_lt).2;rwa [ofNat_toNat]at this
theorem ref_low (n:Nat)(b:UInt8):F_ref06_low.f n (b.toNat:Int)=some (lowB b,()):=by
  rw[F_ref06_low.e0]
  simp only[hide_eq]
  unfold lowB
  have e1:decide ((b.toNat:Int)≥97)=decide (97≤b.toNat):=decide_eq_decide.2 (by omega)
  have e2:decide ((b.toNat:Int)≤122)=decide (b.toNat≤122):=decide_eq_decide.2 (by omega)
  have e3:decide ((b.toNat:Int)≥48)=decide (48≤b.toNat):=decide_eq_decide.2 (by omega)
  have e4:decide ((b.toNat:Int)≤57)=decide (b.toNat≤57):=decide_eq_decide.2 (by omega)
  rw[e1,e2,e3,e4]
  cases decide (97≤b.toNat)<;>cases decide (b.toNat≤122)<;>cases decide (48≤b.toNat)<;>cases decide (b.toNat≤57)<;>rfl
theorem among_low (n:Nat)(b:UInt8):F_label_among.f n ⟨#[97,98,99,100,101,102,103,104,105,106,107,108,109,110,111,112,113,114,115,116,117,118,119,120,121,122,48,49,50,51,52,53,54,55,56,57]⟩ (b.toNat:Int)=some (lowB b,()):=by
  rw[F_label_among.e0]
  unfold F_strings_IndexByte.f
  rw[bnd_some,hide_eq]
  have e:((b.toNat:Int)).toNat.toUInt8=b:=by
    rw[Int.toNat_natCast]
    exact ofNat_toNat b
  rw[e]
  exact congrArg (λx=>some (x,())) (low_idx b)
def spl (c:UInt8):List UInt8→List (List UInt8)
  | []=>[[]]
  | b::r=>if b=c then []::spl c r else match spl c r with
    | []=>[[b]]
    | p::ps=>(b::p)::ps
theorem spl_ne (c:UInt8):∀ l,spl c l≠[]
  | []=>by simp[spl]
  | b::r=>by
    unfold spl
    split
    · simp
    · split<;>simp
theorem index_cons (b c:UInt8)(l:List UInt8):Lib.index (b::l) [c]=if b=c then 0 else if Lib.index l [c] = -1 then -1 else Lib.index l [c]+1:=by
  rw[Lib.index]
  by_cases h:b=c
  · subst h;simp[List.isPrefixOf]
  · rw[if_neg h]
    have hp:([c]:List UInt8).isPrefixOf (b::l)=false:=by simp[List.isPrefixOf,Ne.symm h]
    rw[hp]
    simp
theorem splitK_spl (c:UInt8):∀ l:List UInt8,Lib.splitK [c] 0 (Lib.count l [c]) l=spl c l
  | []=>by rw[Lib.count_one];rfl
  | b :: l=>by
    have ih:=splitK_spl c l
    by_cases h:b=c
    · subst h
      rw[Lib.count_cons_eq,Nat.add_comm,Lib.splitK,index_cons,if_pos rfl,if_neg (by decide)]
      unfold spl
      rw[if_pos rfl]
      change List.take 0 (b::l)::Lib.splitK [b] 0 (Lib.count l [b]) (List.drop 1 (b::l))=_
      rw[List.take_zero,List.drop_one,List.tail_cons,ih]
    · rw[Lib.count_cons_ne b c l h]
      unfold spl
      rw[if_neg h,← ih]
      cases hk:Lib.count l [c] with
      | zero=>rfl
      | succ k=>
        rw[Lib.splitK,Lib.splitK,index_cons,if_neg h]
        by_cases hm:Lib.index l [c] = -1
        · rw[if_pos hm,if_pos (by decide),if_pos (by rw[hm];decide)]
        · have hge:=Lib.index_ge l [c]
          obtain⟨j,hj⟩:∃ j:Nat,Lib.index l [c]=j:=⟨(Lib.index l [c]).toNat,by omega⟩
          rw[if_neg hm,hj,if_neg (by rw[beq_iff_eq];omega),if_neg (by rw[beq_iff_eq];omega),show ((j:Int)+1).toNat=j+1 by omega,show ((j:Int)).toNat=j by omega]
          rfl
def okP (p:List UInt8):Bool:=decide (1≤p.length)&&(decide (p.length≤3)&&p.all digB)
def addrL (l:List UInt8):Bool:=decide ((spl 46 l).length=4)&&(spl 46 l).all okP
theorem dropWhile_nil {α:Type}(p:α→Bool):∀ l:List α,(l.dropWhile p=[])↔l.all p=true
  | []=>by simp
  | x::l=>by
    rw[List.dropWhile_cons,List.all_cons]
    cases h:p x
    · simp
    · simp[dropWhile_nil p l]
theorem trimS_nil (l:List UInt8):(Lib.trimS l digT=[])↔l.all digB=true:=by
  have hd:(digT.contains ·)=digB:=funext dig_has
  unfold Lib.trimS Lib.trimLeftS Lib.trimRightS
  rw[hd,dropWhile_nil,List.all_reverse]
  constructor
  · intro h
    have:l.reverse.dropWhile digB=[]:=by
      cases hc:l.reverse.dropWhile digB with
      | nil=>rfl
      | cons x r=>
        have h1:=List.head?_dropWhile_not digB l.reverse
        rw[hc]at h1 h
        simp only[List.all_cons,Bool.and_eq_true]at h
        simp[h.1]at h1
    rw[dropWhile_nil,List.all_reverse]at this
    exact this
  · intro h
    have:l.reverse.dropWhile digB=[]:=by rw[dropWhile_nil,List.all_reverse];exact h
    rw[this];rfl
theorem all_map {α β:Type}(f:α→β)(p:β→Bool):∀ l:List α,(l.map f).all p=l.all λx=>p (f x)
  | []=>rfl
  | x::l=>by simp only[List.map_cons,List.all_cons,all_map f p l]
theorem label_address {n:Nat} (hn:300≤n) {s:ByteArray} (hs:s.size≤63):F_label_address.f n s=some (addrL s.data.toList,()):=by
  rw[F_label_address.e0]
  unfold F_strings_Split.f
  rw[if_pos ⟨by omega,by decide⟩,bnd_some]
  have hmap:=Lib.splitB_data ⟨#[46]⟩ 0 (Lib.countB s ⟨#[46]⟩) s
  have hlen:=Lib.splitB_all ⟨#[46]⟩ (by decide) 0 _ s rfl
  have hcl:=Lib.countB_le ⟨#[46]⟩ (by decide) s.size s (Nat.le_refl _)
  have hspl:(Lib.splitB ⟨#[46]⟩ 0 (Lib.countB s ⟨#[46]⟩) s).map (·.data.toList)=spl 46 s.data.toList:=hmap.trans (splitK_spl 46 s.data.toList)
  simp only[hide_eq]
  generalize Lib.splitB ⟨#[46]⟩ 0 (Lib.countB s ⟨#[46]⟩) s=t at hspl hlen
  unfold addrL
  rw[← hspl,List.length_map,all_map]
  have h1 := all_loop (l:=t) (⟨#[]⟩:ByteArray) (λx=>okP x.data.toList) (λm k=>F_label_address.J1 n m (t,((t.length:Nat):Int),k,())) (some (true,())) (some (false,()))
    (λm k hk=>by
      try dsimp only
      rw[F_label_address.e1,hide_eq,decide_eq_true (by omega),bIf_true,gIf_pos ⟨by omega,by omega⟩,Int.toNat_natCast,Nat.zero_add,cast_up k (by omega)]
      generalize t.getD k ⟨#[]⟩=x
      simp only[hide_eq]
      rw[size0]
      unfold okP
      have hx:=size_eq x
      have e1:decide (x.size=0)=!decide (1≤x.data.toList.length):=dec_not (by omega)
      have e2:decide ((x.size:Int)>3)=!decide (x.data.toList.length≤3):=dec_not (by omega)
      rw[e1,e2]
      by_cases h3:x.data.toList.length≤3
      · unfold F_strings_Trim.f
        rw[if_pos ⟨by omega,by decide,by decide⟩,bnd_some,decide_eq_true h3]
        have e3:eqS (⟨(Lib.trimS x.data.toList digT).toArray⟩:ByteArray) ⟨#[]⟩=x.data.toList.all digB:=by
          rw[size0]
          have hz:((⟨(Lib.trimS x.data.toList digT).toArray⟩:ByteArray).size=0)↔x.data.toList.all digB=true:=by
            rw[← trimS_nil]
            simp[ByteArray.size]
          by_cases h:x.data.toList.all digB=true
          · rw[h,decide_eq_true (hz.2 h)]
          · rw[decide_eq_false (λh'=>h (hz.1 h'))];simpa using h
        rw[show (#[48,49,50,51,52,53,54,55,56,57]:Array UInt8).toList=digT from rfl,e3]
        cases decide (1≤x.data.toList.length)<;>cases x.data.toList.all digB<;>rfl
      · rw[decide_eq_false h3]
        cases decide (1≤x.data.toList.length)<;>rfl)
    (λm=>by
      try dsimp only
      rw[F_label_address.e1,hide_eq,decide_eq_false (by omega),bIf_false,F_label_address.e2]) n 0 (by omega) (by omega)
  try dsimp only at h1
  rw[show ((0:Nat):Int)=0 from rfl]at h1
  by_cases h4:t.length=4
  · rw[show (((t.length:Nat):Int) != 4)=false by rw[h4];rfl,bIf_false,h1,decide_eq_true h4,List.drop_zero,bIf_bool];rfl
  · rw[show (((t.length:Nat):Int) != 4)=true by rw[bne_iff_ne];omega,bIf_true,decide_eq_false h4];rfl
def fourL:Nat→Nat→List UInt8→Bool
  | p,d,[]=>decide (p=3)&&decide (0<d)
  | p,d,b::r=>if b=46 then decide (0<d)&&fourL (p+1) 0 r else digB b&&(decide (d+1≤3)&&fourL p (d+1) r)
theorem fourL_spl:∀ (l:List UInt8) (p d:Nat),d≤3→fourL p d l=match spl 46 l with
    | []=>false
    | x::ps=>(decide (0<d+x.length)&&(decide (d+x.length≤3)&&x.all digB))&&(decide (p+ps.length=3)&&ps.all okP)
  | [],p,d,hd=>by
    unfold fourL spl
    simp only[List.length_nil,Nat.add_zero,List.all_nil,decide_eq_true hd,Bool.and_true,Bool.true_and]
    cases decide (p=3)<;>cases decide (0<d)<;>rfl
  | b :: r,p,d,hd=>by
    unfold fourL spl
    by_cases h:b=46
    · rw[if_pos h,if_pos h,fourL_spl r (p+1) 0 (by omega)]
      cases hs:spl 46 r with
      | nil=>exact absurd hs (spl_ne 46 r)
      | cons x ps=>
        simp only[List.length_nil,Nat.add_zero,List.all_nil,decide_eq_true hd,Bool.and_true,List.length_cons,List.all_cons,Nat.zero_add]
        have e1:decide (p+1+ps.length=3)=decide (p+(ps.length+1)=3):=decide_eq_decide.2 (by omega)
        have e2:decide (0<x.length)=decide (1≤x.length):=rfl
        rw[e1,e2]
        unfold okP
        cases decide (0<d)<;>cases decide (1≤x.length)<;>cases decide (x.length≤3)<;>cases x.all digB<;>cases decide (p+(ps.length+1)=3)<;>cases ps.all okP<;>rfl
    · rw[if_neg h,if_neg h]
      by_cases h3:d+1≤3
      · rw[fourL_spl r p (d+1) h3]
        cases hs:spl 46 r with
        | nil=>exact absurd hs (spl_ne 46 r)
        | cons x ps=>
          simp only[List.length_cons,List.all_cons]
          rw[decide_eq_true h3,show d+1+x.length=d+(x.length+1) by omega]
          cases digB b<;>cases decide (0<d+(x.length+1))<;>cases decide (d+(x.length+1)≤3)<;>cases x.all digB<;>rfl
      · rw[decide_eq_false h3]
        cases hs:spl 46 r with
        | nil=>exact absurd hs (spl_ne 46 r)
        | cons x ps=>
          simp only[List.length_cons]
          rw[decide_eq_false (show ¬ (d+(x.length+1)≤3) by omega)]
          simp
theorem fourL_addr (l:List UInt8):fourL 0 0 l=addrL l:=by
  rw[fourL_spl l 0 0 (by omega)]
  unfold addrL
  cases hs:spl 46 l with
  | nil=>exact absurd hs (spl_ne 46 l)
  | cons x ps=>
    simp only[List.length_cons,List.all_cons,Nat.zero_add]
    have e1:decide (ps.length=3)=decide (ps.length+1=4):=decide_eq_decide.2 (by omega)
    rw[e1]
    unfold okP
    have e2:decide (0<x.length)=decide (1≤x.length):=rfl
    rw[e2]
    cases decide (1≤x.length)<;>cases decide (x.length≤3)<;>cases x.all digB<;>cases decide (ps.length+1=4)<;>simp
theorem ref_four_J (n:Nat) (s:ByteArray) (hs:s.size≤63):∀ (m k p d:Nat),k≤s.size→s.size-k<m→p≤k→d≤3 →
    F_ref06_four.J1 n m (s,(p:Int),(d:Int),(k:Int),())=some (fourL p d (s.data.toList.drop k),())
  | 0,k,p,d,_,h,_,_=>by omega
  | m + 1,k,p,d,hk,h,hp,hd=>by
    have hsz:=size_eq s
    rw[F_ref06_four.e1]
    simp only[hide_eq]
    by_cases hlt:k<s.size
    · rw[decide_eq_true (by omega),bIf_true,gIf_pos ⟨by omega,by omega⟩,bt_nat,drop_getD s.data.toList (k:=k) (by omega)]
      have e1:(((s.data.toList.getD k 0).toNat:Int)==46)=decide (s.data.toList.getD k 0=46):=u8_eq (c:=46) (by decide)
      rw[e1]
      generalize s.data.toList.getD k 0=b
      unfold fourL
      have ih:=λp' d' h1 h2=>ref_four_J n s hs m (k+1) p' d' (by omega) (by omega) h1 h2
      by_cases hb:b=46
      · rw[decide_eq_true hb,bIf_true,if_pos hb]
        by_cases h0:0<d
        · rw[beq_false_of_ne (by omega),bIf_false,decide_eq_true h0,Bool.true_and,F_ref06_four.e2,cast_up k (by omega),cast_up p (by omega)]
          exact ih (p+1) 0 (by omega) (by omega)
        · rw[beq_iff_eq.2 (by omega),bIf_true,decide_eq_false h0];rfl
      · rw[decide_eq_false hb,bIf_false,if_neg hb,gIf_pos ⟨by omega,by omega⟩,gIf_pos ⟨by omega,by omega⟩,cast_up d (by omega)]
        unfold digB
        have e2:decide ((b.toNat:Int)<48)=!decide (48≤b.toNat):=dec_not (by omega)
        have e3:decide ((b.toNat:Int)>57)=!decide (b.toNat≤57):=dec_not (by omega)
        have e4:decide (((d+1:Nat):Int)>3)=!decide (d+1≤3):=dec_not (by omega)
        rw[e2,e3,e4,F_ref06_four.e2,cast_up k (by omega)]
        by_cases h3:d+1≤3
        · rw[ih p (d+1) (by omega) h3,decide_eq_true h3]
          cases decide (48≤b.toNat)<;>cases decide (b.toNat≤57)<;>rfl
        · rw[decide_eq_false h3]
          cases decide (48≤b.toNat)<;>cases decide (b.toNat≤57)<;>rfl
    · have hkk:k=s.size:=by omega
      subst hkk
      rw[decide_eq_false (by omega),bIf_false,F_ref06_four.e3,hsz,List.drop_length]
      unfold fourL
      simp only[hide_eq,bIf_and]
      have e1:((p:Int)==3)=decide (p=3):=by
        by_cases h:p=3
        · subst h;rfl
        · rw[decide_eq_false h];exact beq_false_of_ne (by omega)
      have e2:decide ((d:Int)>0)=decide (0<d):=decide_eq_decide.2 (by omega)
      rw[e1,e2]
theorem ref_four {n:Nat}(hn:300≤n){s:ByteArray}(hs:s.size≤63):F_ref06_four.f n s=some (addrL s.data.toList,()):=by
  rw[F_ref06_four.e0]
  have:=ref_four_J n s hs n 0 0 0 (by omega) (by omega) (by omega) (by omega)
  rw[List.drop_zero,fourL_addr]at this
  exact this
def badN (c d:UInt8):Bool:=(decide (d=46)||decide (d=45))&&(decide (c=46)||decide (d=46))
def mid (c:UInt8):Bool:=decide (c=45)||decide (c=46)
def nxt (c:UInt8):List UInt8→Bool
  | []=>false
  | d::_=>!badN c d
def lab:Bool→List UInt8→Bool
  | _,[]=>true
  | first,c::r=>(lowB c||(mid c&&(!first&&nxt c r)))&&lab false r
def pairOk (p c:UInt8):Bool:=lowB c||(lowB p||(decide (c=45)&&decide (p=45)))
def rfl':Option UInt8→List UInt8→Bool
  | _,[]=>true
  | o,c::r=>(lowB c||mid c)&&((match o with | none=>true | some p=>pairOk p c)&&rfl' (some c) r)
def lastLow:List UInt8→Bool
  | []=>true
  | [c]=>lowB c
  | _::d::r=>lastLow (d::r)
theorem lab_rfl : ∀ (r:List UInt8) (p:UInt8),(lowB p||mid p)=true→((lowB p||nxt p r)&&lab false r)=(lastLow (p::r)&&rfl' (some p) r)
  | [],p,hp=>by
    simp only[lab,rfl',lastLow,nxt,Bool.or_false]
  | c :: r, p,hp=>by
    have ih:=lab_rfl r c
    unfold lab rfl' lastLow
    by_cases hc:(lowB c||mid c)=true
    · have ih := ih hc
      rw[hc,Bool.true_and]
      have e1:(lowB c||(mid c&&(!false&&nxt c r)))=(lowB c||nxt c r):=by
        cases hl:lowB c
        · rw[hl]at hc;simp only[Bool.false_or]at hc;rw[hc];simp
        · simp
      rw[e1,ih]
      have e2 : (lowB p||nxt p (c::r))=pairOk p c:=by
        unfold pairOk nxt badN
        unfold mid at hp hc
        cases hl:lowB p
        · rw[hl]at hp
          cases hl2:lowB c
          · rw[hl2]at hc
            by_cases a1:c=45
            · by_cases a2:p=45
              · subst a1 a2;rfl
              · have a3:p=46:=by simpa[a2]using hp
                subst a1 a3;rfl
            · have a3:c=46:=by simpa[a1]using hc
              subst a3;simp
          · have:c≠46∧c≠45:=by constructor<;>(intro h;subst h;revert hl2;decide)
            simp[this.1,this.2]
        · simp
      rw[e2]
      change (pairOk p c&&(lastLow (c::r)&&rfl' (some c) r))=(lastLow (c::r)&&(pairOk p c&&rfl' (some c) r))
      cases pairOk p c<;>cases lastLow (c::r)<;>simp
    · have hl:lowB c=false:=by cases h:lowB c<;>simp_all
      have hm:mid c=false:=by cases h:mid c<;>simp_all
      rw[hl,hm];simp
def bucketB (s:ByteArray):Bool:=decide (3≤s.size)&&(decide (s.size≤63)&&(!addrL s.data.toList&&lab true s.data.toList))
theorem lab_first (c:UInt8)(r:List UInt8)(hr:r≠[]):lab true (c::r)=(lowB c&&(lastLow (c::r)&&rfl' none (c::r))):=by
  conv=>lhs;unfold lab
  conv=>rhs;unfold rfl'
  cases hl:lowB c
  · simp
  · have:=lab_rfl r c (by rw[hl];rfl)
    rw[hl]at this
    simp only[Bool.true_or,Bool.true_and]at this ⊢
    rw[this]
theorem u8_ne {b:UInt8}{c:Nat}(hc:c<256):((b.toNat:Int) != (c:Int))=!decide (b=UInt8.ofNat c):=by rw[← u8_eq hc];rfl
theorem bucket_J (n:Nat) (s:ByteArray) (hs:s.size≤63):∀ (m k:Nat),k≤s.size→s.size-k<m →
    F_label_Bucket.J2 n m (s,(s.size:Int),(k:Int),())=some (lab (decide (k=0)) (s.data.toList.drop k),())
  | 0,k,_,h=>by omega
  | m + 1,k,hk,h=>by
    have hsz:=size_eq s
    rw[F_label_Bucket.e2]
    simp only[hide_eq]
    by_cases hlt:k<s.size
    · have ih:=bucket_J n s hs m (k+1) (by omega) (by omega)
      rw[decide_eq_false (show ¬ (k+1=0) by omega)]at ih
      have hg:(0≤(k:Int)∧(k:Int)<(s.size:Int)):=⟨by omega,by omega⟩
      simp only[gIf_pos hg]
      rw[decide_eq_true (by omega),bIf_true,bt_nat,among_low,bnd_some,cast_up k (by omega),ih,wrap_i64 (x:=(s.size:Int)-1) (by omega)]
      rw[drop_getD s.data.toList (k:=k) (by omega)]
      have e1:(((s.data.toList.getD k 0).toNat:Int) != 45)=!decide (s.data.toList.getD k 0=45):=u8_ne (c:=45) (by decide)
      have e2:(((s.data.toList.getD k 0).toNat:Int) != 46)=!decide (s.data.toList.getD k 0=46):=u8_ne (c:=46) (by decide)
      rw[e1,e2]
      generalize hc:s.data.toList.getD k 0=c
      conv=>rhs;unfold lab
      have e3:((k:Int)==0)=decide (k=0):=by
        by_cases h0:k=0
        · subst h0;rfl
        · rw[decide_eq_false h0];exact beq_false_of_ne (by omega)
      have e4:((k:Int)==(s.size:Int)-1)=decide (k+1=s.size):=by
        by_cases h0:k+1=s.size
        · rw[decide_eq_true h0];exact beq_iff_eq.2 (by omega)
        · rw[decide_eq_false h0];exact beq_false_of_ne (by omega)
      rw[e3,e4]
      cases hl:lowB c
      · simp only[bIf_false]
        unfold mid
        by_cases hend:k+1=s.size
        · rw[decide_eq_true hend,show s.data.toList.drop (k+1)=[] from List.drop_eq_nil_of_le (by omega)]
          cases decide (c=45)<;>cases decide (c=46)<;>cases decide (k=0)<;>rfl
        · rw[decide_eq_false hend]
          have hJ3:F_label_Bucket.J3 n m (s,(k:Int),(s.size:Int),(k:Int),())=some (!badN c (s.data.toList.getD (k+1) 0)&&lab false (s.data.toList.drop (k+1)),()):=by
            rw[F_label_Bucket.e3,cast_up k (by omega),gIf_pos ⟨by omega,by omega⟩,bt_nat,bt_nat,hc,ih]
            simp only[hide_eq,gIf_pos hg]
            have f1:(((s.data.toList.getD (k+1) 0).toNat:Int)==46)=decide (s.data.toList.getD (k+1) 0=46):=u8_eq (c:=46) (by decide)
            have f2:(((s.data.toList.getD (k+1) 0).toNat:Int)==45)=decide (s.data.toList.getD (k+1) 0=45):=u8_eq (c:=45) (by decide)
            have f3:((c.toNat:Int)==46)=decide (c=46):=u8_eq (c:=46) (by decide)
            rw[f1,f2,f3]
            unfold badN
            cases decide (s.data.toList.getD (k+1) 0=46)<;>cases decide (s.data.toList.getD (k+1) 0=45)<;>cases decide (c=46)<;>rfl
          rw[hJ3]
          have hm:nxt c (s.data.toList.drop (k+1))=!badN c (s.data.toList.getD (k+1) 0):=by
            rw[drop_getD s.data.toList (k:=k+1) (by omega)];rfl
          rw[hm]
          cases decide (c=45)<;>cases decide (c=46)<;>cases decide (k=0)<;>simp[bIf_true,bIf_false]
      · simp only[bIf_true,Bool.true_or,Bool.true_and]
    · have hkk:k=s.size:=by omega
      subst hkk
      rw[decide_eq_false (by omega),bIf_false,F_label_Bucket.e4,hsz,List.drop_length]
      rfl
theorem label_Bucket {n:Nat}(hn:300≤n)(s:ByteArray):F_label_Bucket.f n s=some (bucketB s,()):=by
  rw[F_label_Bucket.e0]
  simp only[hide_eq]
  unfold bucketB
  have e1:decide ((s.size:Int)<3)=!decide (3≤s.size):=dec_not (by omega)
  have e2:decide ((s.size:Int)>63)=!decide (s.size≤63):=dec_not (by omega)
  rw[e1,e2]
  by_cases h:s.size≤63
  · rw[label_address hn h,bnd_some,decide_eq_true h,F_label_Bucket.e1]
    have:=bucket_J n s h n 0 (by omega) (by omega)
    rw[show ((0:Nat):Int)=0 from rfl,List.drop_zero]at this
    rw[this]
    cases decide (3≤s.size)<;>cases addrL s.data.toList<;>simp[bIf_true,bIf_false]
  · rw[decide_eq_false h]
    cases decide (3≤s.size)<;>rfl
def prevU (l:List UInt8)(k:Nat):Option UInt8:=if k=0 then none else some (l.getD (k-1) 0)
theorem ref_bucket_J (n:Nat) (s:ByteArray) (hs:s.size≤63):∀ (m k:Nat),k≤s.size→s.size-k<m →
    F_ref06_Bucket.J2 n m (s,(k:Int),())=some (rfl' (prevU s.data.toList k) (s.data.toList.drop k),())
  | 0,k,_,h=>by omega
  | m + 1,k,hk,h=>by
    have hsz:=size_eq s
    rw[F_ref06_Bucket.e2]
    simp only[hide_eq]
    by_cases hlt:k<s.size
    · have ih:=ref_bucket_J n s hs m (k+1) (by omega) (by omega)
      have hg:(0≤(k:Int)∧(k:Int)<(s.size:Int)):=⟨by omega,by omega⟩
      simp only[gIf_pos hg]
      rw[decide_eq_true (by omega),bIf_true,bt_nat,ref_low,bnd_some]
      rw[drop_getD s.data.toList (k:=k) (by omega)]
      have e1:(((s.data.toList.getD k 0).toNat:Int) != 45)=!decide (s.data.toList.getD k 0=45):=u8_ne (c:=45) (by decide)
      have e2:(((s.data.toList.getD k 0).toNat:Int) != 46)=!decide (s.data.toList.getD k 0=46):=u8_ne (c:=46) (by decide)
      have e5:(((s.data.toList.getD k 0).toNat:Int)==45)=decide (s.data.toList.getD k 0=45):=u8_eq (c:=45) (by decide)
      rw[e1,e2]
      have hp:prevU s.data.toList (k+1)=some (s.data.toList.getD k 0):=by unfold prevU;rw[if_neg (by omega),Nat.add_sub_cancel]
      rw[hp]at ih
      have hJ4:F_ref06_Bucket.J4 n m (s,(k:Int),())=some (rfl' (some (s.data.toList.getD k 0)) (s.data.toList.drop (k+1)),()):=by
        rw[F_ref06_Bucket.e4,cast_up k (by omega),ih]
      have hJ3:F_ref06_Bucket.J3 n m (s,(k:Int),())=some ((match prevU s.data.toList k with | none=>true | some p=>pairOk p (s.data.toList.getD k 0))&&rfl' (some (s.data.toList.getD k 0)) (s.data.toList.drop (k+1)),()):=by
        rw[F_ref06_Bucket.e3]
        simp only[hide_eq,gIf_pos hg]
        by_cases h0:k=0
        · subst h0
          rw[decide_eq_false (by omega),bIf_false,hJ4];rfl
        · have hw:IntKind.i64.wrap ((k:Int)-1)=((k-1:Nat):Int):=by rw[wrap_i64 (by omega)];omega
          have hg2:(0≤((k-1:Nat):Int)∧((k-1:Nat):Int)<(s.size:Int)):=⟨by omega,by omega⟩
          rw[hw,decide_eq_true (by omega),bIf_true]
          simp only[gIf_pos hg2]
          rw[bt_nat,bt_nat,ref_low,ref_low,bnd_some,bnd_some,e5,hJ4]
          have e6:(((s.data.toList.getD (k-1) 0).toNat:Int)==45)=decide (s.data.toList.getD (k-1) 0=45):=u8_eq (c:=45) (by decide)
          rw[e6]
          unfold prevU
          rw[if_neg h0]
          change _=some (pairOk (s.data.toList.getD (k-1) 0) (s.data.toList.getD k 0)&&rfl' (some (s.data.toList.getD k 0)) (s.data.toList.drop (k+1)),())
          unfold pairOk
          generalize s.data.toList.getD k 0=c
          generalize s.data.toList.getD (k-1) 0=p
          cases lowB c<;>cases lowB p<;>cases decide (c=45)<;>cases decide (p=45)<;>rfl
      rw[hJ3]
      conv=>rhs;unfold rfl'
      unfold mid
      generalize s.data.toList.getD k 0=c
      cases lowB c<;>cases decide (c=45)<;>cases decide (c=46)<;>simp[bIf_true,bIf_false]
    · have hkk:k=s.size:=by omega
      subst hkk
      rw[decide_eq_false (by omega),bIf_false,F_ref06_Bucket.e5,hsz,List.drop_length]
      cases prevU s.data.toList s.data.toList.length<;>rfl
theorem lastLow_getD:∀ (l:List UInt8),l≠[]→lastLow l=lowB (l.getD (l.length-1) 0)
  | [],h=>absurd rfl h
  | [c],_=>rfl
  | c::d::r,_=>by
    unfold lastLow
    rw[lastLow_getD (d::r) (by simp)]
    simp
theorem ref06_Bucket {n:Nat} (hn:300≤n) (s:ByteArray):F_ref06_Bucket.f n s=some (bucketB s,()):=by
  rw[F_ref06_Bucket.e0]
  simp only[hide_eq]
  unfold bucketB
  have e1:decide ((s.size:Int)<3)=!decide (3≤s.size):=dec_not (by omega)
  have e2:decide ((s.size:Int)>63)=!decide (s.size≤63):=dec_not (by omega)
  rw[e1,e2]
  by_cases h3:3≤s.size
  · by_cases h:s.size≤63
    · have hsz:=size_eq s
      have hw:IntKind.i64.wrap ((s.size:Int)-1)=((s.size-1:Nat):Int):=by rw[wrap_i64 (by omega)];omega
      have hg0:(0≤(0:Int)∧(0:Int)<(s.size:Int)):=⟨by omega,by omega⟩
      have hg1:(0≤((s.size-1:Nat):Int)∧((s.size-1:Nat):Int)<(s.size:Int)):=⟨by omega,by omega⟩
      simp only[hw,gIf_pos hg0,gIf_pos hg1]
      rw[decide_eq_true h3,decide_eq_true h,show bt s 0=bt s ((0:Nat):Int) from rfl,bt_nat,bt_nat,ref_low,ref_low,bnd_some,bnd_some,ref_four hn h,bnd_some,F_ref06_Bucket.e1]
      have:=ref_bucket_J n s h n 0 (by omega) (by omega)
      rw[show ((0:Nat):Int)=0 from rfl,List.drop_zero]at this
      rw[this]
      cases hl:s.data.toList with
      | nil=>exact absurd (congrArg List.length hl) (by rw[← hsz];simp only[List.length_nil];omega)
      | cons c r=>
        have hr:r≠[]:=by
          intro hr;subst hr;rw[hl]at hsz;simp at hsz;omega
        rw[lab_first c r hr,lastLow_getD (c::r) (by simp)]
        have ea:(c::r).getD 0 0=c:=rfl
        have eb:(c::r).length=s.size:=by rw[hsz,hl]
        rw[ea,eb]
        have ep:prevU (c::r) 0=none:=rfl
        rw[ep]
        cases lowB c<;>cases lowB ((c::r).getD (s.size-1) 0)<;>cases addrL (c::r)<;>simp[bIf_true,bIf_false]
    · rw[decide_eq_false h]
      cases decide (3≤s.size)<;>rfl
  · rw[decide_eq_false h3];rfl
end Go.Proofs.YtemhlkdingkjnaaGreatDoor
namespace Go.Proofs.YtemhlkdingkjnaaGreatDoor
open Go Go.Va Go.Proofs
theorem hide_n (x:Bool):hide x=x:=by cases x<;>rw[hide_eq]
def behB (last v:Ver):Bool:=decide (v.1>last.1)&&decide (made v≥made last)
theorem object_behind (n:Nat)(v last:Ver):F_object_behind.f n v last=some (behB last v,()):=by
  rw[F_object_behind.e0]
  simp only[hide_n]
  exact bIf_and _ _
def risB (l:List Ver):Bool:=chk verB behB none l
structure LB (n:Nat)(l:List Ver):Prop where
  len:l.length<n
  all:∀ v∈l,VB n v
theorem rising_J (n:Nat) (hn:n≤536870912) (l:List Ver) (hl:LB n l):∀ (m k:Nat),k≤l.length→l.length-k<m →
    F_object_rising.J1 n m (l,l,((l.length:Nat):Int),(k:Int),())=some (chk verB behB (prev l k) (l.drop k),())
  | 0,k,_,h=>by omega
  | m + 1,k,hk,h=>by
    have hl1:=hl.len
    rw[F_object_rising.e1]
    simp only[hide_n]
    by_cases hlt:k<l.length
    · have ih:=rising_J n hn l hl m (k+1) (by omega) (by omega)
      rw[decide_eq_true (by omega),bIf_true,gIf_pos ⟨by omega,by omega⟩,Int.toNat_natCast,ver18 hn (hl.all _ (getD_memA hlt)),bnd_some,cast_up k (by omega),ih]
      by_cases h0:k=0
      · subst h0
        rw[chk_zero (d:=Va.dflt T_api_Version) (by omega),decide_eq_false (show ¬ (((0:Nat):Int)>0) by simp),bIf_false]
        cases verB (l.getD 0 (Va.dflt T_api_Version))<;>rfl
      · rw[chk_succ (d:=Va.dflt T_api_Version) (by omega) hlt,decide_eq_true (show (k:Int)>0 by omega),bIf_true,wrap_i64 (x:=(k:Int)-1) (by omega),gIf_pos ⟨by omega,by omega⟩,show ((k:Int)-1).toNat=k-1 by omega,object_behind,bnd_some]
        dsimp only
        cases verB (l.getD k (Va.dflt T_api_Version))<;>cases behB (l.getD (k-1) (Va.dflt T_api_Version)) (l.getD k (Va.dflt T_api_Version))<;>rfl
    · rw[decide_eq_false (by omega),bIf_false,F_object_rising.e2,chk_end (by omega)]
theorem object_rising {n:Nat}(hn:n≤536870912){l:List Ver}(hl:LB n l):F_object_rising.f n l=some (risB l,()):=by
  rw[F_object_rising.e0]
  exact rising_J n hn l hl n 0 (by omega) (by have:=hl.len;omega)
def soundB (o:D_api_Object):Bool:=keyB o.1&&(decide (1≤o.2.1.length)&&risB o.2.1)
structure OB (n:Nat)(o:D_api_Object):Prop where
  key:o.1.size<n
  list:LB n o.2.1
theorem object_Sound {n:Nat}(hn:n≤536870912){o:D_api_Object}(ho:OB n o):F_object_Sound.f n o=some (soundB o,()):=by
  rw[F_object_Sound.e0,key24 ho.key hn,object_rising hn ho.list]
  simp only[hide_n,bnd_some]
  unfold soundB
  rw[show decide (((o.2.1.length:Nat):Int)>0)=decide (1≤o.2.1.length) from decide_eq_decide.2 (by omega)]
  cases keyB o.1<;>cases decide (1≤o.2.1.length)<;>rfl
end Go.Proofs.YtemhlkdingkjnaaGreatDoor
namespace Go.Proofs.YtemhlkdingkjnaaGreatDoor
open Go Go.Va Go.Proofs
abbrev Ce:Type:=D_meta_census
abbrev Seen:Type:=List (Int×Bool)
def got (seen:Seen)(x:Int):Bool:=(mGet (.int .u64) .bool seen x).1
def setS (seen:Seen)(x:Int):Seen:=mSet (.int .u64) .bool seen x true
def idOk (hi:Int)(seen:Seen)(x:Int):Bool:=!decide (x<1)&&(!decide (x≥hi)&&!got seen x)
def addIds (hi:Int):Seen→List Int→Option Seen
  | seen,[]=>some seen
  | seen,x::l=>if idOk hi seen x=true then addIds hi (setS seen x) l else none
theorem addIds_app (hi:Int):∀ (a:List Int) (seen:Seen) (b:List Int),addIds hi seen (a++b)=(addIds hi seen a).bind λs=>addIds hi s b
  | [],_,_=>rfl
  | x::a,seen,b=>by
    simp only[List.cons_append,addIds]
    split
    · exact addIds_app hi a _ b
    · rfl
def Step (c:Ce)(r:Bool×Ce)(ok:Bool)(ids:List Int)(add:Int):Prop:=
  r.1=(ok&&(addIds c.1.2.1 c.2.2.1 ids).isSome)∧∀ s',addIds c.1.2.1 c.2.2.1 ids=some s'→ok=true→r.2=(c.1,(c.2.1+add,(s',())))
theorem Step.fail {c:Ce}{r:Bool×Ce}{ids:List Int}{add:Int}(h:r.1=false):Step c r false ids add:=⟨by rw[h,Bool.false_and],λ_ _ h=>nomatch h⟩
theorem Step.pure (c:Ce)(b:Bool):Step c (b,c) b [] 0:=⟨by simp[addIds],λs' h _=>by
  simp only[addIds,Option.some.injEq]at h
  subst h
  rw[Int.add_zero]⟩
theorem Step.yes {c:Ce}{b:Bool}{c':Ce}{ok:Bool}{ids:List Int}{add:Int}(h:Step c (b,c') ok ids add)(hb:b=true):ok=true∧∃ s',addIds c.1.2.1 c.2.2.1 ids=some s'∧c'=(c.1,(c.2.1+add,(s',()))):=by
  have h1:=h.1
  rw[hb]at h1
  have h2:=Bool.and_eq_true _ _ ▸ h1.symm
  obtain⟨h3,h4⟩:=h2
  obtain⟨s',h5⟩:=Option.isSome_iff_exists.1 h4
  exact⟨h3,s',h5,h.2 s' h5 h3⟩
theorem Step.seq {c c1:Ce}{b1:Bool}{r r2:Bool×Ce}{ok1 ok2:Bool}{i1 i2:List Int}{a1 a2:Int}(h1:Step c (b1,c1) ok1 i1 a1)(h2:b1=true→Step c1 r2 ok2 i2 a2)(hr:b1=true→r=r2)(hf:b1=false→r.1=false) :
    Step c r (ok1&&ok2) (i1++i2) (a1+a2):=by
  cases hb:b1 with
  | true=>
    obtain⟨k1,s1,k2,k3⟩:=h1.yes hb
    have h3:=h2 hb
    rw[hr hb]
    subst k3 k1
    obtain⟨m1,m2⟩:=h3
    unfold Step
    rw[addIds_app,k2,Bool.true_and]
    refine⟨m1,λs' hs hok => ?_⟩
    rw[m2 s' hs hok]
    simp only[Int.add_assoc]
  | false=>
    have h3:=h1.1
    rw[hb]at h3
    unfold Step
    rw[hf hb,addIds_app]
    cases hk:ok1 with
    | false=>exact⟨by simp,λ_ _ h=>by simp at h⟩
    | true=>
      rw[hk,Bool.true_and]at h3
      cases hi:addIds c.1.2.1 c.2.2.1 i1 with
      | none=>exact⟨by simp,λ_ h=>by simp at h⟩
      | some s=>rw[hi]at h3;exact absurd h3 (by simp)
theorem id_is (n:Nat) (c:Ce) (x:Int):∃ b c',F_meta_census_id.f n c x=some (b,c',())∧Step c (b,c') true [x] 0:=by
  rw[F_meta_census_id.e0]
  simp only[hide_n]
  change ∃ b c',bIf (decide (x<1)) (some (false,c,())) (bIf (decide (x≥c.1.2.1)) (some (false,c,())) (bIf (got c.2.2.1 x) (some (false,c,())) (F_meta_census_id.J1 n (x,c,()))))=some (b,c',())∧_
  rw[F_meta_census_id.e1]
  change ∃ b c',bIf (decide (x<1)) (some (false,c,())) (bIf (decide (x≥c.1.2.1)) (some (false,c,())) (bIf (got c.2.2.1 x) (some (false,c,())) (some (true,(c.1,(c.2.1,(setS c.2.2.1 x,()))),()))))=some (b,c',())∧_
  have ha:addIds c.1.2.1 c.2.2.1 [x]=if (!decide (x<1)&&(!decide (x≥c.1.2.1)&&!got c.2.2.1 x))=true then some (setS c.2.2.1 x) else none:=rfl
  unfold Step
  rw[ha]
  cases decide (x<1)
  · cases decide (x≥c.1.2.1)
    · cases got c.2.2.1 x
      · refine⟨true,_,rfl,rfl,λs' h _ => ?_⟩
        injection h with h
        subst h
        rw[Int.add_zero]
      · exact⟨false,c,rfl,rfl,λs' h=>nomatch h⟩
    · exact⟨false,c,rfl,rfl,λs' h=>nomatch h⟩
  · exact⟨false,c,rfl,rfl,λs' h=>nomatch h⟩
theorem drop_cons {α:Type}{l:List α}{k:Nat}(d:α)(h:k<l.length):l.drop k=l.getD k d::l.drop (k+1):=by
  rw[List.drop_eq_getElem_cons h]
  simp[h]
def sumI {α:Type}(f:α→Int)(l:List α):Int:=(l.map f).sum
theorem sumI_cons {α:Type}(f:α→Int)(x:α)(l:List α):sumI f (x::l)=f x+sumI f l:=by unfold sumI;rw[List.map_cons,List.sum_cons]
theorem sumI_nn {α:Type}{f:α→Int}:∀ {l:List α},(∀ x∈l,0≤f x)→0≤sumI f l
  | [],_=>by simp[sumI]
  | x::l,h=>by
    rw[sumI_cons]
    have h1:=h x (by simp)
    have h2:=sumI_nn (l:=l) λy hy=>h y (by simp[hy])
    omega
abbrev Lim:Int:=1152921504606846976
theorem index_loop {α:Type} (s:D_api_State) (d:α) (l:List α) (J:Nat→Int→Ce→Option (Int×Ce×Unit)) (g:α→Ce→Option (Bool×Ce×Unit)) (ok:α→Bool) (ids:α→List Int) (add:α→Int) (hadd:∀ x∈l,0≤add x)
    (hg:∀ x∈l,∀ c:Ce,c.1=s→0≤c.2.1→c.2.1+add x≤Lim→∃ b c',g x c=some (b,c',())∧Step c (b,c') (ok x) (ids x) (add x))
    (hJ:∀ m (k:Nat) (c:Ce),k<l.length→J (m+1) (k:Int) c=bnd (g (l.getD k d) c) λu=>bIf (!u.1) (some ((k:Int),u.2.1,())) (J m ((k+1:Nat):Int) u.2.1))
    (hE:∀ m (c:Ce),J (m+1) ((l.length:Nat):Int) c=some (-1,c,())) :
    ∀ (m k:Nat) (c:Ce),k≤l.length→l.length-k<m→c.1=s→0≤c.2.1→c.2.1+sumI add (l.drop k)≤Lim→∃ i c',J m (k:Int) c=some (i,c',())∧Step c (!decide (i≥0),c') ((l.drop k).all ok) ((l.drop k).flatMap ids) (sumI add (l.drop k))
  | 0,k,_,_,h,_,_,_=>by omega
  | m + 1,k,c,hk,h,hs,h0,h1=>by
    by_cases hlt:k<l.length
    · have hx:=getD_memA (d:=d) hlt
      have hnn:0≤sumI add (l.drop (k+1)):=sumI_nn λy hy=>hadd y (List.mem_of_mem_drop hy)
      have ha:=hadd _ hx
      rw[drop_cons d hlt,sumI_cons]at h1 ⊢
      obtain⟨b,c1,k1,k2⟩:=hg _ hx c hs h0 (by omega)
      rw[hJ m k c hlt,k1,bnd_some,List.all_cons,List.flatMap_cons]
      cases hb:b with
      | true=>
        obtain⟨q1,s1,q2,q3⟩:=k2.yes hb
        have e1:c1.1=c.1:=by rw[q3]
        have e2:c1.2.1=c.2.1+add (l.getD k d):=by rw[q3]
        obtain⟨i,c',g1,g2⟩:=index_loop s d l J g ok ids add hadd hg hJ hE m (k+1) c1 (by omega) (by omega) (e1.trans hs) (by omega) (by omega)
        exact⟨i,c',g1,k2.seq (λ_=>g2) (λ_=>rfl) (λh=>nomatch hb.symm.trans h)⟩
      | false=>
        exact⟨k,c1,rfl,k2.seq (r2:=(false,c1)) (λh=>nomatch hb.symm.trans h) (λh=>nomatch hb.symm.trans h) (λ_=>by simp)⟩
    · have e:k=l.length:=by omega
      subst e
      rw[hE,List.drop_length]
      exact⟨-1,c,rfl,Step.pure c true⟩
theorem nan_string (n:Nat)(a:ByteArray):F_cmp_isNaN_string.f n a=some (false,()):=by
  rw[F_cmp_isNaN_string.e0];simp only[hide_n];rw[eqS_self];rfl
theorem cmp_string (n:Nat)(a b:ByteArray):∃ z,F_cmp_Compare_string.f n a b=some (z,())∧decide (z≥0)=!ltS a b:=by
  rw[F_cmp_Compare_string.e0,nan_string,nan_string]
  simp only[hide_n,bnd_some,bIf_false]
  cases h:ltS a b
  · cases eqS a b
    · exact⟨1,rfl,rfl⟩
    · exact⟨0,rfl,rfl⟩
  · exact⟨-1,rfl,rfl⟩
theorem nan_int (n:Nat)(a:Int):F_cmp_isNaN_int.f n a=some (false,()):=by
  rw[F_cmp_isNaN_int.e0];simp only[hide_n];rw[bne_self_eq_false]
theorem cmp_int (n:Nat)(a b:Int):∃ z,F_cmp_Compare_int.f n a b=some (z,())∧decide (z≥0)=!decide (a<b):=by
  rw[F_cmp_Compare_int.e0,nan_int,nan_int]
  simp only[hide_n,bnd_some,bIf_false]
  cases h:decide (a<b)
  · cases decide (a>b)
    · exact⟨0,rfl,rfl⟩
    · exact⟨1,rfl,rfl⟩
  · exact⟨-1,rfl,rfl⟩
theorem nan_uint64 (n:Nat)(a:Int):F_cmp_isNaN_uint64.f n a=some (false,()):=by
  rw[F_cmp_isNaN_uint64.e0];simp only[hide_n];rw[bne_self_eq_false]
theorem cmp_uint64 (n:Nat)(a b:Int):∃ z,F_cmp_Compare_uint64.f n a b=some (z,())∧decide (z≥0)=!decide (a<b):=by
  rw[F_cmp_Compare_uint64.e0,nan_uint64,nan_uint64]
  simp only[hide_n,bnd_some,bIf_false]
  cases h:decide (a<b)
  · cases decide (a>b)
    · exact⟨0,rfl,rfl⟩
    · exact⟨1,rfl,rfl⟩
  · exact⟨-1,rfl,rfl⟩
def upB {α:Type}(lt:α→α→Bool)(l:List α):Bool:=chk (λ_=>true) lt none l
theorem up_loop {α:Type}{l:List α}(d:α)(lt:α→α→Bool)(J:Nat→Int→Option (Bool×Unit))(hl:l.length<536870912)
    (hs:∀ m (k:Nat),0<k→k<l.length→J (m+1) (k:Int)=bIf (!lt (l.getD (k-1) d) (l.getD k d)) (some (false,())) (J m ((k+1:Nat):Int)))
    (he:∀ m (k:Nat),l.length≤k→J (m+1) (k:Int)=some (true,())) :
    ∀ (m k:Nat),0<k→l.length+1-k<m→J m (k:Int)=some (chk (λ_=>true) lt (prev l k) (l.drop k),())
  | 0,k,_,h=>by omega
  | m + 1,k,hk,h=>by
    by_cases hlt:k<l.length
    · rw[hs m k hk hlt,up_loop d lt J hl hs he m (k+1) (by omega) (by omega),chk_succ (d:=d) hk hlt]
      cases lt (l.getD (k-1) d) (l.getD k d)<;>rfl
    · rw[he m k (by omega),chk_end (by omega)]
theorem up_all {α:Type}{l:List α}(d:α)(lt:α→α→Bool):chk (λ_=>true) lt (prev l 1) (l.drop 1)=upB lt l:=by
  unfold upB
  cases l with
  | nil=>rfl
  | cons x l=>
    have:=chk_zero (p:=λ_=>true) (q:=lt) (l:=x::l) (d:=d) (by simp)
    rw[Bool.true_and]at this
    exact this.symm
def ltBucket (a b:D_api_Bucket):Bool:=ltS a.1 b.1
theorem meta_up_Bucket {n:Nat}(hn:n≤536870912){l:List D_api_Bucket}(hl:l.length+1<n):F_meta_up_Bucket.f n l=some (upB ltBucket l,()):=by
  rw[F_meta_up_Bucket.e0,← up_all (Va.dflt T_api_Bucket)]
  exact up_loop (Va.dflt T_api_Bucket) ltBucket (λm k=>F_meta_up_Bucket.J1 n m (l,k,())) (by omega)
    (λm k h0 hk=>by
      try dsimp only
      obtain⟨z,h1,h2⟩:=cmp_string n (l.getD (k-1) (Va.dflt T_api_Bucket)).1 (l.getD k (Va.dflt T_api_Bucket)).1
      rw[F_meta_up_Bucket.e1,hide_n,decide_eq_true (by omega),bIf_true,wrap_i64 (x:=(k:Int)-1) (by omega),show ((k:Int)-1)=((k-1:Nat):Int) by omega,gIf_pos ⟨by omega,by omega⟩,gIf_pos ⟨by omega,by omega⟩,Int.toNat_natCast,Int.toNat_natCast,F_meta_byName.e0,h1,cast_up k (by omega)]
      simp only[bnd_some,hide_n]
      rw[h2];rfl)
    (λm k hk=>by
      try dsimp only
      rw[F_meta_up_Bucket.e1,hide_n,decide_eq_false (by omega),bIf_false,F_meta_up_Bucket.e2]) n 1 (by omega) (by omega)
def ltObject (a b:D_api_Object):Bool:=ltS a.1 b.1
theorem meta_up_Object {n:Nat}(hn:n≤536870912){l:List D_api_Object}(hl:l.length+1<n):F_meta_up_Object.f n l=some (upB ltObject l,()):=by
  rw[F_meta_up_Object.e0,← up_all (Va.dflt T_api_Object)]
  exact up_loop (Va.dflt T_api_Object) ltObject (λm k=>F_meta_up_Object.J1 n m (l,k,())) (by omega)
    (λm k h0 hk=>by
      try dsimp only
      obtain⟨z,h1,h2⟩:=cmp_string n (l.getD (k-1) (Va.dflt T_api_Object)).1 (l.getD k (Va.dflt T_api_Object)).1
      rw[F_meta_up_Object.e1,hide_n,decide_eq_true (by omega),bIf_true,wrap_i64 (x:=(k:Int)-1) (by omega),show ((k:Int)-1)=((k-1:Nat):Int) by omega,gIf_pos ⟨by omega,by omega⟩,gIf_pos ⟨by omega,by omega⟩,Int.toNat_natCast,Int.toNat_natCast,F_meta_byKey.e0,h1,cast_up k (by omega)]
      simp only[bnd_some,hide_n]
      rw[h2];rfl)
    (λm k hk=>by
      try dsimp only
      rw[F_meta_up_Object.e1,hide_n,decide_eq_false (by omega),bIf_false,F_meta_up_Object.e2]) n 1 (by omega) (by omega)
def ltUpload (a b:D_api_Upload):Bool:=decide (a.1<b.1)
theorem meta_up_Upload {n:Nat}(hn:n≤536870912){l:List D_api_Upload}(hl:l.length+1<n):F_meta_up_Upload.f n l=some (upB ltUpload l,()):=by
  rw[F_meta_up_Upload.e0,← up_all (Va.dflt T_api_Upload)]
  exact up_loop (Va.dflt T_api_Upload) ltUpload (λm k=>F_meta_up_Upload.J1 n m (l,k,())) (by omega)
    (λm k h0 hk=>by
      try dsimp only
      obtain⟨z,h1,h2⟩:=cmp_uint64 n (l.getD (k-1) (Va.dflt T_api_Upload)).1 (l.getD k (Va.dflt T_api_Upload)).1
      rw[F_meta_up_Upload.e1,hide_n,decide_eq_true (by omega),bIf_true,wrap_i64 (x:=(k:Int)-1) (by omega),show ((k:Int)-1)=((k-1:Nat):Int) by omega,gIf_pos ⟨by omega,by omega⟩,gIf_pos ⟨by omega,by omega⟩,Int.toNat_natCast,Int.toNat_natCast,F_meta_byID.e0,h1,cast_up k (by omega)]
      simp only[bnd_some,hide_n]
      rw[h2];rfl)
    (λm k hk=>by
      try dsimp only
      rw[F_meta_up_Upload.e1,hide_n,decide_eq_false (by omega),bIf_false,F_meta_up_Upload.e2]) n 1 (by omega) (by omega)
def ltPart (a b:D_api_Part):Bool:=decide (a.1<b.1)
theorem meta_up_Part {n:Nat}(hn:n≤536870912){l:List D_api_Part}(hl:l.length+1<n):F_meta_up_Part.f n l=some (upB ltPart l,()):=by
  rw[F_meta_up_Part.e0,← up_all (Va.dflt T_api_Part)]
  exact up_loop (Va.dflt T_api_Part) ltPart (λm k=>F_meta_up_Part.J1 n m (l,k,())) (by omega)
    (λm k h0 hk=>by
      try dsimp only
      obtain⟨z,h1,h2⟩:=cmp_int n (l.getD (k-1) (Va.dflt T_api_Part)).1 (l.getD k (Va.dflt T_api_Part)).1
      rw[F_meta_up_Part.e1,hide_n,decide_eq_true (by omega),bIf_true,wrap_i64 (x:=(k:Int)-1) (by omega),show ((k:Int)-1)=((k-1:Nat):Int) by omega,gIf_pos ⟨by omega,by omega⟩,gIf_pos ⟨by omega,by omega⟩,Int.toNat_natCast,Int.toNat_natCast,F_meta_byNumber.e0,h1,cast_up k (by omega)]
      simp only[bnd_some,hide_n]
      rw[h2];rfl)
    (λm k hk=>by
      try dsimp only
      rw[F_meta_up_Part.e1,hide_n,decide_eq_false (by omega),bIf_false,F_meta_up_Part.e2]) n 1 (by omega) (by omega)
def verS (s:D_api_State)(v:Ver):Bool:=!decide (made v>s.1)&&!decide (blob v≥s.2.2.1)
theorem obj_loop {n:Nat} {s:D_api_State} (o:D_api_Object) (hl:o.2.1.length<536870912):∀ (m k:Nat) (c:Ce),k≤o.2.1.length→o.2.1.length-k<m→c.1=s→0≤c.2.1→c.2.1+(o.2.1.length:Int)≤Lim →
    ∃ b c',F_meta_census_object.J1 n m (o.2.1,((o.2.1.length:Nat):Int),(k:Int),o,c,())=some (b,c',())∧Step c (b,c') ((o.2.1.drop k).all (verS s)) ((o.2.1.drop k).map λv=>v.1) (o.2.1.length:Int)
  | 0,k,_,_,h,_,_,_=>by omega
  | m + 1,k,c,hk,h,hs,h0,h1=>by
    rw[F_meta_census_object.e1,hide_n]
    by_cases hlt:k<o.2.1.length
    · obtain⟨b,c1,k1,k2⟩:=id_is n c (o.2.1.getD k (Va.dflt T_api_Version)).1
      rw[decide_eq_true (by omega),bIf_true,gIf_pos ⟨by omega,by omega⟩,Int.toNat_natCast,cast_up k (by omega)]
      change ∃ b c',(bnd (F_meta_census_id.f n c (o.2.1.getD k (Va.dflt T_api_Version)).1) _)=some (b,c',())∧_
      rw[k1,bnd_some,drop_cons (Va.dflt T_api_Version) hlt,List.map_cons,List.all_cons]
      generalize o.2.1.getD k (Va.dflt T_api_Version)=v at k1 k2 ⊢
      simp only[hide_n]
      cases hb:b with
      | false=>
        refine⟨false,c1,rfl,?_⟩
        have:=k2.seq (r:=(false,c1)) (r2:=(false,c1)) (ok2:=verS s v&&((o.2.1.drop (k+1)).all (verS s))) (i2:=(o.2.1.drop (k+1)).map λv=>v.1) (a2:=(o.2.1.length:Int)) (λh=>nomatch hb.symm.trans h) (λh=>nomatch hb.symm.trans h) (λ_=>rfl)
        rw[Bool.true_and,Int.zero_add]at this
        exact this
      | true=>
        obtain⟨q1,s1,q2,q3⟩:=k2.yes hb
        have e1:c1.1=c.1:=by rw[q3]
        have e2:c1.2.1=c.2.1:=by rw[q3];exact Int.add_zero _
        have fin:∀ b' c',Step c1 (b',c') (verS s v&&((o.2.1.drop (k+1)).all (verS s))) ((o.2.1.drop (k+1)).map λv=>v.1) (o.2.1.length:Int)→Step c (b',c') (verS s v&&((o.2.1.drop (k+1)).all (verS s))) (v.1::(o.2.1.drop (k+1)).map λv=>v.1) (o.2.1.length:Int):=λb' c' hh=>by
          have:=k2.seq (r:=(b',c')) (λ_=>hh) (λ_=>rfl) (λh=>nomatch hb.symm.trans h)
          rw[Bool.true_and,Int.zero_add]at this
          exact this
        rw[Bool.not_true,bIf_false]
        change ∃ b c',bIf (decide (made v>c1.1.1)) (some (false,c1,())) (bIf (decide (blob v≥c1.1.2.2.1)) (some (false,c1,())) (F_meta_census_object.J1 n m (o.2.1,((o.2.1.length:Nat):Int),((k+1:Nat):Int),o,c1,())))=some (b,c',())∧_
        rw[e1,hs]
        cases hm:decide (made v>s.1) with
        | true=>exact⟨false,c1,rfl,fin _ _ (by unfold verS;rw[hm];exact .fail rfl)⟩
        | false=>
          cases hq:decide (blob v≥s.2.2.1) with
          | true=>exact⟨false,c1,rfl,fin _ _ (by unfold verS;rw[hm,hq];exact .fail rfl)⟩
          | false=>
            obtain⟨b',c',g1,g2⟩:=obj_loop (n:=n) o hl m (k+1) c1 (by omega) (by omega) (e1.trans hs) (by rw[e2];exact h0) (by rw[e2];exact h1)
            refine⟨b',c',g1,fin _ _ ?_⟩
            have:verS s v=true:=by unfold verS;rw[hm,hq];rfl
            rw[this,Bool.true_and];exact g2
    · have e:k=o.2.1.length:=by omega
      subst e
      have hLim:Lim=1152921504606846976:=rfl
      rw[decide_eq_false (by omega),bIf_false,F_meta_census_object.e2,List.drop_length]
      dsimp only
      rw[wrap_i64 (x:=c.2.1+(o.2.1.length:Int)) (by omega)]
      exact⟨true,_,rfl,rfl,λs' hs' _=>by
        injection hs' with hs'
        subst hs'; rfl⟩
def okO (s:D_api_State)(o:D_api_Object):Bool:=soundB o&&o.2.1.all (verS s)
def idsO (o:D_api_Object):List Int:=o.2.1.map λv=>v.1
def lenO (o:D_api_Object):Int:=(o.2.1.length:Int)
theorem census_object {n:Nat}(hn:n≤536870912){s:D_api_State}{o:D_api_Object}(ho:OB n o){c:Ce}(hs:c.1=s)(h0:0≤c.2.1)(h1:c.2.1+lenO o≤Lim) :
    ∃ b c',F_meta_census_object.f n c o=some (b,c',())∧Step c (b,c') (okO s o) (idsO o) (lenO o):=by
  have hl:=ho.list.len
  rw[F_meta_census_object.e0,object_Sound hn ho,bnd_some]
  unfold okO
  cases hb:soundB o with
  | false=>exact⟨false,c,rfl,.fail rfl⟩
  | true=>
    obtain⟨b,c',k1,k2⟩:=obj_loop (n:=n) o (by omega) n 0 c (by omega) (by omega) hs h0 h1
    exact⟨b,c',k1,k2⟩
def okP' (s:D_api_State)(p:D_api_Part):Bool:=partB p&&!decide (p.2.2.1≥s.2.2.1)
def okU' (s:D_api_State)(u:D_api_Upload):Bool:=keyB u.2.1&&(tagsB u.2.2.1&&(!decide ((u.2.2.2.1.length:Int)>16)&&(upB ltPart u.2.2.2.1&&u.2.2.2.1.all (okP' s))))
structure UpS (n:Nat)(u:D_api_Upload):Prop where
  key:u.2.1.size<n
  tg:TsB n u.2.2.1
  ps:u.2.2.2.1.length+1<n
theorem parts_is {n:Nat}(hn:n≤536870912){s:D_api_State}{l:List D_api_Part}(hl:l.length<n){c:Ce}(hs:c.1=s)(h0:0≤c.2.1)(h1:c.2.1≤Lim):∃ b c',bnd (F_slices_ContainsFunc_Part.f n l c) (λu=>some ((!u.1),u.2.1,()))=some (b,c',())∧Step c (b,c') (l.all (okP' s)) [] 0:=by
  have hz:∀ k,sumI (λ_:D_api_Part=>(0:Int)) (l.drop k)=0:=λk=>by
    generalize l.drop k=l
    induction l with
    | nil=>rfl
    | cons x l ih=>rw[sumI_cons,ih];rfl
  obtain⟨i,c',k1,k2⟩:=index_loop s (Va.dflt T_api_Part) l (λm k c=>F_slices_IndexFunc_Part.J1 n m (l,((l.length:Nat):Int),k,c,())) (λx c=>some (okP' c.1 x,c,())) (okP' s) (λ_=>[]) (λ_=>0) (λ_ _=>Int.le_refl 0)
    (λx _ c hc _ _=>⟨_,c,rfl,by rw[hc];exact Step.pure c _⟩)
    (λm k c hk=>by
      try dsimp only
      rw[F_slices_IndexFunc_Part.e1,hide_n,decide_eq_true (by omega),bIf_true,gIf_pos ⟨by omega,by omega⟩,Int.toNat_natCast,F_meta_census_upload_1.e0,entry_Part,cast_up k (by omega)]
      simp only[bnd_some,hide_n]
      unfold okP'
      cases partB (l.getD k (Va.dflt T_api_Part))<;>cases decide ((l.getD k (Va.dflt T_api_Part)).2.2.1≥c.1.2.2.1)<;>rfl)
    (λm c=>by
      try dsimp only
      rw[F_slices_IndexFunc_Part.e1,hide_n,decide_eq_false (by omega),bIf_false,F_slices_IndexFunc_Part.e2]) n 0 c (by omega) (by omega) hs h0 (by rw[hz];omega)
  rw[hz,List.drop_zero,show (l.flatMap λ_=>([]:List Int))=[] by simp]at k2
  refine⟨_,c',?_,k2⟩
  rw[F_slices_ContainsFunc_Part.e0,F_slices_IndexFunc_Part.e0]
  change bnd (bnd (F_slices_IndexFunc_Part.J1 n n (l,((l.length:Nat):Int),((0:Nat):Int),c,())) _) _=_
  try dsimp only at k1
  rw[k1]
  simp only[bnd_some,hide_n]
theorem census_upload {n:Nat} (hn:n≤536870912) {s:D_api_State} {u:D_api_Upload} (hu:UpS n u) {c:Ce} (hs:c.1=s) (h0:0≤c.2.1) (h1:c.2.1+0≤Lim) :
    ∃ b c',F_meta_census_upload.f n c u=some (b,c',())∧Step c (b,c') (okU' s u) [u.1] 0:=by
  obtain⟨b,c1,k1,k2⟩:=id_is n c u.1
  rw[F_meta_census_upload.e0]
  change ∃ b c',(bnd (F_meta_census_id.f n c u.1) _)=some (b,c',())∧_
  rw[k1,bnd_some,key24 hu.key hn,tags35 hn hu.tg,meta_up_Part hn hu.ps]
  simp only[bnd_some,hide_n]
  cases hb:b with
  | false=>
    refine⟨false,c1,rfl,?_⟩
    have:=k2.seq (r:=(false,c1)) (r2:=(false,c1)) (ok2:=okU' s u) (i2:=[]) (a2:=0) (λh=>nomatch hb.symm.trans h) (λh=>nomatch hb.symm.trans h) (λ_=>rfl)
    rw[Bool.true_and]at this
    exact this
  | true=>
    obtain⟨q1,s1,q2,q3⟩:=k2.yes hb
    have e1:c1.1=c.1:=by rw[q3]
    have e2:c1.2.1=c.2.1:=by rw[q3];exact Int.add_zero _
    have fin:∀ b' c',Step c1 (b',c') (okU' s u) [] 0→Step c (b',c') (okU' s u) [u.1] 0:=λb' c' hh=>by
      have:=k2.seq (r:=(b',c')) (λ_=>hh) (λ_=>rfl) (λh=>nomatch hb.symm.trans h)
      rw[Bool.true_and]at this
      exact this
    obtain⟨b2,c2,g1,g2⟩:=parts_is hn (l:=u.2.2.2.1) (by have:=hu.ps;omega) (e1.trans hs) (by rw[e2];exact h0) (by rw[e2];rw[Int.add_zero]at h1;exact h1)
    have hj:F_meta_census_upload.J1 n ((),u,c1,())=some (b2,c2,()):=by
      rw[F_meta_census_upload.e1];exact g1
    rw[Bool.not_true,bIf_false]
    change ∃ b c',bIf (!keyB u.2.1) (some (false,c1,())) (bIf (!tagsB u.2.2.1) (some (false,c1,())) (bIf (decide (((u.2.2.2.1.length:Nat):Int)>16)) (some (false,c1,())) (bIf (!upB ltPart u.2.2.2.1) (some (false,c1,())) (F_meta_census_upload.J1 n ((),u,c1,())))))=some (b,c',())∧_
    rw[hj]
    unfold okU' at fin ⊢
    revert fin
    cases keyB u.2.1
    · intro fin;exact⟨false,c1,rfl,fin _ _ (.fail rfl)⟩
    · cases tagsB u.2.2.1
      · intro fin;exact⟨false,c1,rfl,fin _ _ (.fail rfl)⟩
      · cases decide (((u.2.2.2.1.length:Nat):Int)>16)
        · cases upB ltPart u.2.2.2.1
          · intro fin;exact⟨false,c1,rfl,fin _ _ (.fail rfl)⟩
          · intro fin;exact⟨b2,c2,rfl,fin _ _ g2⟩
        · intro fin;exact⟨false,c1,rfl,fin _ _ (.fail rfl)⟩
theorem every_Object {n:Nat}(hn:n≤536870912){l:List D_api_Object}(hl:l.length<n){s:D_api_State}{ok:D_api_Object→Bool}{ids:D_api_Object→List Int}{add:D_api_Object→Int}(hadd:∀ x∈l,0≤add x)
    (hg:∀ x∈l,∀ c:Ce,c.1=s→0≤c.2.1→c.2.1+add x≤Lim→∃ b c',F_meta_census_object.f n c x=some (b,c',())∧Step c (b,c') (ok x) (ids x) (add x))
    {c:Ce} (hs:c.1=s) (h0:0≤c.2.1) (h1:c.2.1+sumI add l≤Lim):∃ b c',F_meta_every_Object.f n l c=some (b,c',())∧Step c (b,c') (l.all ok) (l.flatMap ids) (sumI add l):=by
  obtain⟨i,c',k1,k2⟩:=index_loop s (Va.dflt T_api_Object) l (λm k c=>F_slices_IndexFunc_Object.J1 n m (l,((l.length:Nat):Int),k,c,())) (λx c=>F_meta_census_object.f n c x) ok ids add hadd hg
    (λm k c hk=>by
      try dsimp only
      rw[F_slices_IndexFunc_Object.e1,hide_n,decide_eq_true (by omega),bIf_true,gIf_pos ⟨by omega,by omega⟩,Int.toNat_natCast,F_meta_every_Object_1.e0,cast_up k (by omega)]
      change bnd (bnd (F_meta_census_object.f n c (l.getD k (Va.dflt T_api_Object))) λu=>some ((!u.1),u.2.1,())) (λu=>bIf u.1 (some ((k:Int),u.2.1,())) (F_slices_IndexFunc_Object.J1 n m (l,((l.length:Nat):Int),((k+1:Nat):Int),u.2.1,())))=_
      cases F_meta_census_object.f n c (l.getD k (Va.dflt T_api_Object))<;>rfl)
    (λm c=>by
      try dsimp only
      rw[F_slices_IndexFunc_Object.e1,hide_n,decide_eq_false (by omega),bIf_false,F_slices_IndexFunc_Object.e2]) n 0 c (by omega) (by omega) hs h0 (by rw[List.drop_zero];exact h1)
  rw[List.drop_zero]at k2
  refine⟨_,c',?_,k2⟩
  rw[F_meta_every_Object.e0,F_slices_ContainsFunc_Object.e0,F_slices_IndexFunc_Object.e0]
  change bnd (bnd (F_slices_IndexFunc_Object.J1 n n (l,((l.length:Nat):Int),((0:Nat):Int),c,())) _) _=_
  try dsimp only at k1
  rw[k1]
  simp only[bnd_some,hide_n]
theorem every_Upload {n:Nat}(hn:n≤536870912){l:List D_api_Upload}(hl:l.length<n){s:D_api_State}{ok:D_api_Upload→Bool}{ids:D_api_Upload→List Int}{add:D_api_Upload→Int}(hadd:∀ x∈l,0≤add x)
    (hg:∀ x∈l,∀ c:Ce,c.1=s→0≤c.2.1→c.2.1+add x≤Lim→∃ b c',F_meta_census_upload.f n c x=some (b,c',())∧Step c (b,c') (ok x) (ids x) (add x))
    {c:Ce} (hs:c.1=s) (h0:0≤c.2.1) (h1:c.2.1+sumI add l≤Lim):∃ b c',F_meta_every_Upload.f n l c=some (b,c',())∧Step c (b,c') (l.all ok) (l.flatMap ids) (sumI add l):=by
  obtain⟨i,c',k1,k2⟩:=index_loop s (Va.dflt T_api_Upload) l (λm k c=>F_slices_IndexFunc_Upload.J1 n m (l,((l.length:Nat):Int),k,c,())) (λx c=>F_meta_census_upload.f n c x) ok ids add hadd hg
    (λm k c hk=>by
      try dsimp only
      rw[F_slices_IndexFunc_Upload.e1,hide_n,decide_eq_true (by omega),bIf_true,gIf_pos ⟨by omega,by omega⟩,Int.toNat_natCast,F_meta_every_Upload_1.e0,cast_up k (by omega)]
      change bnd (bnd (F_meta_census_upload.f n c (l.getD k (Va.dflt T_api_Upload))) λu=>some ((!u.1),u.2.1,())) (λu=>bIf u.1 (some ((k:Int),u.2.1,())) (F_slices_IndexFunc_Upload.J1 n m (l,((l.length:Nat):Int),((k+1:Nat):Int),u.2.1,())))=_
      cases F_meta_census_upload.f n c (l.getD k (Va.dflt T_api_Upload))<;>rfl)
    (λm c=>by
      try dsimp only
      rw[F_slices_IndexFunc_Upload.e1,hide_n,decide_eq_false (by omega),bIf_false,F_slices_IndexFunc_Upload.e2]) n 0 c (by omega) (by omega) hs h0 (by rw[List.drop_zero];exact h1)
  rw[List.drop_zero]at k2
  refine⟨_,c',?_,k2⟩
  rw[F_meta_every_Upload.e0,F_slices_ContainsFunc_Upload.e0,F_slices_IndexFunc_Upload.e0]
  change bnd (bnd (F_slices_IndexFunc_Upload.J1 n n (l,((l.length:Nat):Int),((0:Nat):Int),c,())) _) _=_
  try dsimp only at k1
  rw[k1]
  simp only[bnd_some,hide_n]
structure BkS (n:Nat)(b:D_api_Bucket):Prop where
  ru:RusB n b.2.2.1
  gr:GrsB n b.2.2.2.1
  ol:b.2.2.2.2.1.length+1<n
  ob:∀ o∈b.2.2.2.2.1,OB n o
  ul:b.2.2.2.2.2.1.length+1<n
  up:∀ u∈b.2.2.2.2.2.1,UpS n u
def okT (b:D_api_Bucket):Bool:=bucketB b.1&&(modeB b.2.1&&(rulesB b.2.2.1&&(grantsB b.2.2.2.1&&(!decide ((b.2.2.2.2.2.1.length:Int)>4)&&(upB ltObject b.2.2.2.2.1&&upB ltUpload b.2.2.2.2.2.1)))))
def okB (s:D_api_State)(b:D_api_Bucket):Bool:=okT b&&(b.2.2.2.2.1.all (okO s)&&b.2.2.2.2.2.1.all (okU' s))
def idsB (b:D_api_Bucket):List Int:=b.2.2.2.2.1.flatMap idsO++b.2.2.2.2.2.1.flatMap λu=>[u.1]
def lenB (b:D_api_Bucket):Int:=sumI lenO b.2.2.2.2.1+sumI (λ_=>0) b.2.2.2.2.2.1
theorem lenO_nn (o:D_api_Object):0≤lenO o:=Int.natCast_nonneg _
theorem census_bucket {n:Nat}(h3:300≤n)(hn:n≤536870912){s:D_api_State}{b:D_api_Bucket}(hb:BkS n b){c:Ce}(hs:c.1=s)(h0:0≤c.2.1)(h1:c.2.1+lenB b≤Lim) :
    ∃ r c',F_meta_census_bucket.f n c b=some (r,c',())∧Step c (r,c') (okB s b) (idsB b) (lenB b):=by
  have hn1:0≤sumI lenO b.2.2.2.2.1:=sumI_nn λo _=>lenO_nn o
  have hn2:0≤sumI (λ_:D_api_Upload=>(0:Int)) b.2.2.2.2.2.1:=sumI_nn λ_ _=>Int.le_refl 0
  unfold lenB at h1
  have hol:=hb.ol
  have hul:=hb.ul
  obtain⟨r1,c1,k1,k2⟩:=every_Object hn (by omega) (s:=s) (ok:=okO s) (ids:=idsO) (add:=lenO) (λo _=>lenO_nn o) (λo ho c hc g0 g1=>census_object hn (hb.ob o ho) hc g0 g1) hs h0 (l:=b.2.2.2.2.1) (by omega)
  have hj:∃ r c',F_meta_census_bucket.J2 n (b,c,())=some (r,c',())∧Step c (r,c') (b.2.2.2.2.1.all (okO s)&&b.2.2.2.2.2.1.all (okU' s)) (idsB b) (lenB b):=by
    rw[F_meta_census_bucket.e2]
    change ∃ r c',bnd (F_meta_every_Object.f n b.2.2.2.2.1 c) _=some (r,c',())∧_
    rw[k1,bnd_some]
    cases hr:r1 with
    | false=>exact⟨false,c1,rfl,k2.seq (r2:=(false,c1)) (λh=>nomatch hr.symm.trans h) (λh=>nomatch hr.symm.trans h) (λ_=>rfl)⟩
    | true=>
      obtain⟨q1,s1,q2,q3⟩:=k2.yes hr
      have e1:c1.1=c.1:=by rw[q3]
      have e2:c1.2.1=c.2.1+sumI lenO b.2.2.2.2.1:=by rw[q3]
      obtain⟨r2,c2,g1,g2⟩:=every_Upload hn (by omega) (s:=s) (ok:=okU' s) (ids:=λu=>[u.1]) (add:=λ_=>0) (λ_ _=>Int.le_refl 0) (λu hu c hc g0 g1=>census_upload hn (hb.up u hu) hc g0 g1) (e1.trans hs) (by rw[e2];omega) (l:=b.2.2.2.2.2.1) (by rw[e2];omega)
      refine⟨r2,c2,?_,k2.seq (λ_=>g2) (λ_=>rfl) (λh=>nomatch hr.symm.trans h)⟩
      rw[bIf_true]
      change bnd (F_meta_every_Upload.f n b.2.2.2.2.2.1 c1) _=_
      rw[g1];rfl
  obtain⟨r,c',g1,g2⟩:=hj
  rw[F_meta_census_bucket.e0,label_Bucket h3,mode_Good,entry_Rules hn hb.ru,entry_Grants hn hb.gr]
  simp only[bnd_some]
  change ∃ r c',bIf (!bucketB b.1) (some (false,c,())) (bIf (!modeB b.2.1) (some (false,c,())) (bIf (!rulesB b.2.2.1) (some (false,c,())) (bIf (!grantsB b.2.2.2.1) (some (false,c,())) (F_meta_census_bucket.J1 n (b,c,())))))=some (r,c',())∧_
  rw[F_meta_census_bucket.e1,meta_up_Object hn hb.ol,meta_up_Upload hn hb.ul]
  simp only[bnd_some,hide_n]
  change ∃ r c',bIf (!bucketB b.1) (some (false,c,())) (bIf (!modeB b.2.1) (some (false,c,())) (bIf (!rulesB b.2.2.1) (some (false,c,())) (bIf (!grantsB b.2.2.2.1) (some (false,c,())) (bIf (decide (((b.2.2.2.2.2.1.length:Nat):Int)>4)) (some (false,c,())) (bIf (!upB ltObject b.2.2.2.2.1) (some (false,c,())) (bIf (!upB ltUpload b.2.2.2.2.2.1) (some (false,c,())) (F_meta_census_bucket.J2 n (b,c,()))))))))=some (r,c',())∧_
  rw[g1]
  unfold okB okT
  cases bucketB b.1
  · exact⟨false,c,rfl,.fail rfl⟩
  cases modeB b.2.1
  · exact⟨false,c,rfl,.fail rfl⟩
  cases rulesB b.2.2.1
  · exact⟨false,c,rfl,.fail rfl⟩
  cases grantsB b.2.2.2.1
  · exact⟨false,c,rfl,.fail rfl⟩
  cases decide (((b.2.2.2.2.2.1.length:Nat):Int)>4)
  · cases upB ltObject b.2.2.2.2.1
    · exact⟨false,c,rfl,.fail rfl⟩
    cases upB ltUpload b.2.2.2.2.2.1
    · exact⟨false,c,rfl,.fail rfl⟩
    exact⟨r,c',rfl,g2⟩
  · exact⟨false,c,rfl,.fail rfl⟩
theorem every_Bucket {n:Nat}(hn:n≤536870912){l:List D_api_Bucket}(hl:l.length<n){s:D_api_State}{ok:D_api_Bucket→Bool}{ids:D_api_Bucket→List Int}{add:D_api_Bucket→Int}(hadd:∀ x∈l,0≤add x)
    (hg:∀ x∈l,∀ c:Ce,c.1=s→0≤c.2.1→c.2.1+add x≤Lim→∃ b c',F_meta_census_bucket.f n c x=some (b,c',())∧Step c (b,c') (ok x) (ids x) (add x))
    {c:Ce} (hs:c.1=s) (h0:0≤c.2.1) (h1:c.2.1+sumI add l≤Lim):∃ b c',F_meta_every_Bucket.f n l c=some (b,c',())∧Step c (b,c') (l.all ok) (l.flatMap ids) (sumI add l):=by
  obtain⟨i,c',k1,k2⟩:=index_loop s (Va.dflt T_api_Bucket) l (λm k c=>F_slices_IndexFunc_Bucket.J1 n m (l,((l.length:Nat):Int),k,c,())) (λx c=>F_meta_census_bucket.f n c x) ok ids add hadd hg
    (λm k c hk=>by
      try dsimp only
      rw[F_slices_IndexFunc_Bucket.e1,hide_n,decide_eq_true (by omega),bIf_true,gIf_pos ⟨by omega,by omega⟩,Int.toNat_natCast,F_meta_every_Bucket_1.e0,cast_up k (by omega)]
      change bnd (bnd (F_meta_census_bucket.f n c (l.getD k (Va.dflt T_api_Bucket))) λu=>some ((!u.1),u.2.1,())) (λu=>bIf u.1 (some ((k:Int),u.2.1,())) (F_slices_IndexFunc_Bucket.J1 n m (l,((l.length:Nat):Int),((k+1:Nat):Int),u.2.1,())))=_
      cases F_meta_census_bucket.f n c (l.getD k (Va.dflt T_api_Bucket))<;>rfl)
    (λm c=>by
      try dsimp only
      rw[F_slices_IndexFunc_Bucket.e1,hide_n,decide_eq_false (by omega),bIf_false,F_slices_IndexFunc_Bucket.e2]) n 0 c (by omega) (by omega) hs h0 (by rw[List.drop_zero];exact h1)
  rw[List.drop_zero]at k2
  refine⟨_,c',?_,k2⟩
  rw[F_meta_every_Bucket.e0,F_slices_ContainsFunc_Bucket.e0,F_slices_IndexFunc_Bucket.e0]
  change bnd (bnd (F_slices_IndexFunc_Bucket.J1 n n (l,((l.length:Nat):Int),((0:Nat):Int),c,())) _) _=_
  try dsimp only at k1
  rw[k1]
  simp only[bnd_some,hide_n]
structure StS (n:Nat)(s:D_api_State):Prop where
  len:s.2.2.2.1.length+1<n
  bk:∀ b∈s.2.2.2.1,BkS n b
  lim:sumI lenB s.2.2.2.1≤Lim
  few:(s.2.2.2.1.flatMap idsB).length<n
def topB (s:D_api_State):Bool:=(s.1==clampI s.1)&&(!decide (s.2.1<1)&&(!decide (s.2.1>4611686018427387904)&&(!decide (s.2.2.1<1)&&!decide (s.2.2.1>4611686018427387904))))
def idsS (s:D_api_State):List Int:=s.2.2.2.1.flatMap idsB
def stateB (s:D_api_State):Bool:=topB s&&(!decide ((s.2.2.2.1.length:Int)>16)&&(upB ltBucket s.2.2.2.1&&(s.2.2.2.1.all (okB s)&&((addIds s.2.1 [] (idsS s)).isSome&&decide (sumI lenB s.2.2.2.1≤256)))))
theorem lenB_nn (b:D_api_Bucket):0≤lenB b:=by
  have h1:0≤sumI lenO b.2.2.2.2.1:=sumI_nn λo _=>lenO_nn o
  have h2:0≤sumI (λ_:D_api_Upload=>(0:Int)) b.2.2.2.2.2.1:=sumI_nn λ_ _=>Int.le_refl 0
  unfold lenB;omega
theorem meta_Sound {n:Nat} (h3:300≤n) (hn:n≤536870912) {s:D_api_State} (hs:StS n s):F_meta_Sound.f n s=some (stateB s,()):=by
  have hl:=hs.len
  obtain⟨r,c',k1,k2⟩:=every_Bucket hn (by omega) (s:=s) (ok:=okB s) (ids:=idsB) (add:=lenB) (λb _=>lenB_nn b) (λb hb c hc g0 g1=>census_bucket h3 hn (hs.bk b hb) hc g0 g1) (c:=(s,(0,([],())))) rfl (Int.le_refl 0) (l:=s.2.2.2.1) (by rw[Int.zero_add];exact hs.lim)
  rw[F_meta_Sound.e0,clamp33,bnd_some,F_meta_Sound.e1,meta_up_Bucket hn hs.len,bnd_some,F_meta_Sound.e2,k1,bnd_some]
  simp only[hide_n]
  have h2:bIf r (some (decide (c'.2.1≤256),())) (some (false,()))=some (s.2.2.2.1.all (okB s)&&((addIds s.2.1 [] (idsS s)).isSome&&decide (sumI lenB s.2.2.2.1≤256)),()):=by
    have q:=k2.1
    cases hr:r with
    | true=>
      obtain⟨q1,s1,q2,q3⟩:=k2.yes hr
      have q2:addIds s.2.1 [] (idsS s)=some s1:=q2
      rw[q1,q2,q3,bIf_true]
      change some (decide (0+sumI lenB s.2.2.2.1≤256),())=some (decide (sumI lenB s.2.2.2.1≤256),())
      rw[Int.zero_add]
    | false=>
      rw[hr]at q
      have q:false=(s.2.2.2.1.all (okB s)&&(addIds s.2.1 [] (idsS s)).isSome):=q
      rw[bIf_false,← Bool.and_assoc,← q];rfl
  rw[h2]
  unfold stateB topB
  change bIf (!(s.1==clampI s.1)) _ _=_
  cases (s.1==clampI s.1)
  · rfl
  cases decide (s.2.1<1)
  · cases decide (s.2.1>4611686018427387904)
    · cases decide (s.2.2.1<1)
      · cases decide (s.2.2.1>4611686018427387904)
        · cases decide ((s.2.2.2.1.length:Int)>16)
          · cases upB ltBucket s.2.2.2.1<;>rfl
          · rfl
        · rfl
      · rfl
    · rfl
  · rfl
end Go.Proofs.YtemhlkdingkjnaaGreatDoor
namespace Go.Proofs.YtemhlkdingkjnaaGreatDoor
open Go Go.Va Go.Proofs
theorem got_set:∀ (seen:Seen) (x y:Int),got (setS seen x) y=((y==x)||got seen y)
  | [],x,y=>by
    change (mGet (.int .u64) .bool [(x,true)] y).1=_
    unfold mGet
    change (if decide (y=x)=true then ((true:Bool),true) else mGet (.int .u64) .bool [] y).1=((y==x)||(mGet (.int .u64) .bool [] y).1)
    by_cases h:y=x
    · subst h;simp
    · rw[decide_eq_false h,show (y==x)=false from beq_eq_false_iff_ne.2 h];rfl
  | (k, v)::l,x,y=>by
    have ih:=got_set l x y
    unfold got setS at ih ⊢
    unfold mSet
    change (mGet (.int .u64) .bool (if decide (x=k)=true then (x,true)::l else (k,v)::mSet (.int .u64) .bool l x true) y).1=_
    by_cases hk:x=k
    · subst hk
      rw[decide_eq_true rfl,if_pos rfl]
      unfold mGet
      change (if decide (y=x)=true then ((true:Bool),true) else mGet (.int .u64) .bool l y).1=((y==x)||(if decide (y=x)=true then (v,true) else mGet (.int .u64) .bool l y).1)
      by_cases h:y=x
      · subst h;simp
      · rw[decide_eq_false h,show (y==x)=false from beq_eq_false_iff_ne.2 h];rfl
    · rw[decide_eq_false hk,if_neg (by decide)]
      unfold mGet
      change (if decide (y=k)=true then (v,true) else mGet (.int .u64) .bool (mSet (.int .u64) .bool l x true) y).1=((y==x)||(if decide (y=k)=true then (v,true) else mGet (.int .u64) .bool l y).1)
      by_cases h:y=k
      · subst h
        rw[decide_eq_true rfl,if_pos rfl,if_pos rfl,show (y==x)=false from beq_eq_false_iff_ne.2 (λe=>hk e.symm)];rfl
      · rw[decide_eq_false h,if_neg (by decide),if_neg (by decide)];exact ih
def freshL (hi:Int):List Int→List Int→Bool
  | _,[]=>true
  | pre,x::l=>!decide (x<1)&&(!decide (x≥hi)&&(!pre.any (λy=>y==x)&&freshL hi (pre++[x]) l))
theorem addIds_is (hi:Int):∀ (l:List Int) (seen:Seen) (pre:List Int),(∀ x,got seen x=pre.any λy=>y==x)→(addIds hi seen l).isSome=freshL hi pre l
  | [],_,_,_=>rfl
  | x :: l, seen,pre,h=>by
    unfold addIds freshL idOk
    rw[h x]
    cases decide (x<1)
    · cases decide (x≥hi)
      · cases pre.any (λy=>y==x)
        · change (addIds hi (setS seen x) l).isSome=freshL hi (pre++[x]) l
          exact addIds_is hi l _ _ λz=>by
            rw[got_set,h z,List.any_append,Bool.or_comm]
            simp only[List.any_cons,List.any_nil,Bool.or_false]
            congr 1
            by_cases e:z=x
            · subst e;rfl
            · rw[show (z==x)=false from beq_eq_false_iff_ne.2 e,show (x==z)=false from beq_eq_false_iff_ne.2 (λq=>e q.symm)]
        · rfl
      · rfl
    · rfl
theorem addIds_fresh (hi:Int)(l:List Int):(addIds hi [] l).isSome=freshL hi [] l:=addIds_is hi l [] [] λ_=>rfl
end Go.Proofs.YtemhlkdingkjnaaGreatDoor
namespace Go.Proofs.YtemhlkdingkjnaaGreatDoor
open Go Go.Va Go.Proofs
def beforeB {α:Type}(lt:α→α→Bool):Option α→α→Bool
  | none,_=>true
  | some p,x=>lt p x
theorem chk_cons {α:Type}(lt:α→α→Bool)(o:Option α)(x:α)(l:List α):chk (λ_=>true) lt o (x::l)=(beforeB lt o x&&chk (λ_=>true) lt (some x) l):=by
  cases o with
  | none=>simp only[chk,beforeB]
  | some p=>simp only[chk,beforeB,Bool.true_and]
def objsR (s:D_api_State):Option D_api_Object→List D_api_Object→Int→Bool
  | _,[],_=>true
  | prev,o::l,ver=>soundB o&&(beforeB ltObject prev o&&(decide (ver+lenO o≤256)&&(o.2.1.all (verS s)&&objsR s (some o) l (ver+lenO o))))
theorem objsR_is (s:D_api_State):∀ (l:List D_api_Object) (prev:Option D_api_Object) (ver:Int),ver≤256→objsR s prev l ver=(chk (λ_=>true) ltObject prev l&&(l.all (okO s)&&decide (ver+sumI lenO l≤256)))
  | [],prev,ver,h=>by
    have:chk (λ_=>true) ltObject prev []=true:=by cases prev<;>rfl
    rw[this]
    unfold objsR
    have e:sumI lenO []=0:=rfl
    rw[e,Int.add_zero,decide_eq_true h];rfl
  | o :: l,prev,ver,h=>by
    unfold objsR
    rw[chk_cons,List.all_cons,sumI_cons]
    unfold okO
    have h1:=lenO_nn o
    have h2:0≤sumI lenO l:=sumI_nn λo _=>lenO_nn o
    by_cases hv:ver+lenO o≤256
    · rw[objsR_is s l (some o) (ver+lenO o) hv,decide_eq_true hv,← Int.add_assoc]
      unfold okO
      cases soundB o<;>cases beforeB ltObject prev o<;>cases o.2.1.all (verS s)<;>cases chk (λ_=>true) ltObject (some o) l<;>rfl
    · rw[decide_eq_false hv,decide_eq_false (show ¬ (ver+(lenO o+sumI lenO l)≤256) by omega)]
      simp
def upsR (s:D_api_State):Option D_api_Upload→List D_api_Upload→Bool
  | _,[]=>true
  | prev,u::l=>okU' s u&&(beforeB ltUpload prev u&&upsR s (some u) l)
theorem upsR_is (s:D_api_State):∀ (l:List D_api_Upload) (prev:Option D_api_Upload),upsR s prev l=(chk (λ_=>true) ltUpload prev l&&l.all (okU' s))
  | [],prev=>by cases prev<;>rfl
  | u::l,prev=>by
    unfold upsR
    rw[chk_cons,List.all_cons,upsR_is s l (some u)]
    cases okU' s u<;>cases beforeB ltUpload prev u<;>cases chk (λ_=>true) ltUpload (some u) l<;>rfl
def ownT (b:D_api_Bucket):Bool:=modeB b.2.1&&(rulesB b.2.2.1&&(grantsB b.2.2.2.1&&!decide ((b.2.2.2.2.2.1.length:Int)>4)))
def bksR (s:D_api_State):Option D_api_Bucket→List D_api_Bucket→Int→Bool
  | _,[],_=>true
  | prev,b::l,ver=>bucketB b.1&&(beforeB ltBucket prev b&&(ownT b&&(objsR s none b.2.2.2.2.1 ver&&(upsR s none b.2.2.2.2.2.1&&bksR s (some b) l (ver+sumI lenO b.2.2.2.2.1)))))
theorem lenB_is (b:D_api_Bucket):lenB b=sumI lenO b.2.2.2.2.1:=by
  have:∀ l:List D_api_Upload,sumI (λ_=>(0:Int)) l=0:=λl=>by
    induction l with
    | nil=>rfl
    | cons x l ih=>rw[sumI_cons,ih];rfl
  unfold lenB;rw[this,Int.add_zero]
theorem bksR_is (s:D_api_State):∀ (l:List D_api_Bucket) (prev:Option D_api_Bucket) (ver:Int),ver≤256→bksR s prev l ver=(chk (λ_=>true) ltBucket prev l&&(l.all (okB s)&&decide (ver+sumI lenB l≤256)))
  | [],prev,ver,h=>by
    have:chk (λ_=>true) ltBucket prev []=true:=by cases prev<;>rfl
    rw[this]
    unfold bksR
    have e:sumI lenB []=0:=rfl
    rw[e,Int.add_zero,decide_eq_true h];rfl
  | b :: l,prev,ver,h=>by
    unfold bksR
    rw[chk_cons,List.all_cons,sumI_cons,lenB_is,objsR_is s _ none ver h,upsR_is]
    have h2:0≤sumI lenB l:=sumI_nn λb _=>lenB_nn b
    unfold okB okT ownT upB
    by_cases hv:ver+sumI lenO b.2.2.2.2.1≤256
    · rw[bksR_is s l (some b) _ hv,decide_eq_true hv,← Int.add_assoc]
      unfold okB okT upB
      generalize bucketB b.1=x1
      generalize beforeB ltBucket prev b=x2
      generalize modeB b.2.1=x3
      generalize rulesB b.2.2.1=x4
      generalize grantsB b.2.2.2.1=x5
      generalize decide ((b.2.2.2.2.2.1.length:Int)>4)=x6
      generalize chk (λ_=>true) ltObject none b.2.2.2.2.1=x7
      generalize b.2.2.2.2.1.all (okO s)=x8
      generalize chk (λ_=>true) ltUpload none b.2.2.2.2.2.1=x9
      generalize b.2.2.2.2.2.1.all (okU' s)=x10
      generalize chk (λ_=>true) ltBucket (some b) l=x11
      generalize l.all _=x12
      generalize decide (ver+sumI lenO b.2.2.2.2.1+sumI lenB l≤256)=x13
      simp only[Bool.and_true]
      ac_rfl
    · rw[decide_eq_false hv,decide_eq_false (show ¬ (ver+(sumI lenO b.2.2.2.2.1+sumI lenB l)≤256) by omega)]
      simp
theorem stateB_is (s:D_api_State):stateB s=(topB s&&(!decide ((s.2.2.2.1.length:Int)>16)&&(bksR s none s.2.2.2.1 0&&freshL s.2.1 [] (idsS s)))):=by
  unfold stateB
  rw[bksR_is s _ none 0 (by decide),addIds_fresh,Int.zero_add]
  unfold upB
  cases topB s<;>cases decide ((s.2.2.2.1.length:Int)>16)<;>cases chk (λ_=>true) ltBucket none s.2.2.2.1<;>cases s.2.2.2.1.all (okB s)<;>cases freshL s.2.1 [] (idsS s)<;>cases decide (sumI lenB s.2.2.2.1≤256)<;>rfl
end Go.Proofs.YtemhlkdingkjnaaGreatDoor
namespace Go.Proofs.YtemhlkdingkjnaaGreatDoor
open Go Go.Va Go.Proofs
theorem rising13_J (n:Nat) (hn:n≤536870912) (h5:40≤n) (l:List Ver) (hl:LB n l):∀ (m k:Nat),k≤l.length→l.length-k<m →
    F_ref13_Rising.J1 n m (l,(k:Int),())=some (chk verB behB (prev l k) (l.drop k),())
  | 0,k,_,h=>by omega
  | m + 1,k,hk,h=>by
    have hl1:=hl.len
    rw[F_ref13_Rising.e1]
    simp only[hide_n]
    by_cases hlt:k<l.length
    · have ih:=rising13_J n hn h5 l hl m (k+1) (by omega) (by omega)
      have hg:(0≤(k:Int)∧(k:Int)<((l.length:Nat):Int)):=⟨by omega,by omega⟩
      have e2:F_ref13_Rising.J2 n m (l,(k:Int),())=some (chk verB behB (prev l (k+1)) (l.drop (k+1)),()):=by
        rw[F_ref13_Rising.e2,cast_up k (by omega),ih]
      rw[decide_eq_true (show (k:Int)<((l.length:Nat):Int) by omega),bIf_true,gIf_pos hg,Int.toNat_natCast,ver19 hn h5 (hl.all _ (getD_memA hlt)),bnd_some,gIf_pos hg,e2]
      by_cases h0:k=0
      · subst h0
        rw[chk_zero (d:=Va.dflt T_api_Version) (by omega),decide_eq_false (show ¬ (((0:Nat):Int)>0) by simp),bIf_false]
        cases verB (l.getD 0 (Va.dflt T_api_Version))<;>rfl
      · have hp:0≤(k:Int)-1∧(k:Int)-1<((l.length:Nat):Int):=⟨by omega,by omega⟩
        rw[chk_succ (d:=Va.dflt T_api_Version) (by omega) hlt,decide_eq_true (show (k:Int)>0 by omega),bIf_true,wrap_i64 (x:=(k:Int)-1) (by omega),gIf_pos hp,gIf_pos hp,gIf_pos hg,show ((k:Int)-1).toNat=k-1 by omega]
        have hbeh:behB (l.getD (k-1) (Va.dflt T_api_Version)) (l.getD k (Va.dflt T_api_Version))=(!decide ((l.getD k (Va.dflt T_api_Version)).1≤(l.getD (k-1) (Va.dflt T_api_Version)).1)&&!decide (made (l.getD k (Va.dflt T_api_Version))<made (l.getD (k-1) (Va.dflt T_api_Version)))):=by
          unfold behB
          congr 1
          · exact z_gt _ _
          · exact z_ge2 _ _
        rw[hbeh]
        change bIf (!verB (l.getD k (Va.dflt T_api_Version))) _ (bIf (decide ((l.getD k (Va.dflt T_api_Version)).1≤(l.getD (k-1) (Va.dflt T_api_Version)).1)) _ (bIf (decide (made (l.getD k (Va.dflt T_api_Version))<made (l.getD (k-1) (Va.dflt T_api_Version)))) _ _))=_
        cases verB (l.getD k (Va.dflt T_api_Version))<;>cases decide ((l.getD k (Va.dflt T_api_Version)).1≤(l.getD (k-1) (Va.dflt T_api_Version)).1)<;>cases decide (made (l.getD k (Va.dflt T_api_Version))<made (l.getD (k-1) (Va.dflt T_api_Version)))<;>rfl
    · rw[decide_eq_false (show ¬ (k:Int)<((l.length:Nat):Int) by omega),bIf_false,F_ref13_Rising.e3,chk_end (by omega)]
theorem ref13_Sound {n:Nat}(hn:n≤536870912)(h5:40≤n){o:D_api_Object}(ho:OB n o):F_ref13_Sound.f n o=some (soundB o,()):=by
  have hl:=ho.list.len
  have hr:F_ref13_Rising.f n o.2.1=some (risB o.2.1,()):=by
    rw[F_ref13_Rising.e0]
    exact rising13_J n hn h5 _ ho.list n 0 (by omega) (by omega)
  rw[F_ref13_Sound.e0,key30 ho.key hn (by omega),hr]
  simp only[hide_n,bnd_some]
  unfold soundB
  rw[show decide (((o.2.1.length:Nat):Int)≥1)=decide (1≤o.2.1.length) from decide_eq_decide.2 (by omega)]
  cases keyB o.1<;>cases decide (1≤o.2.1.length)<;>rfl
theorem prev_succ {α:Type}{l:List α}{k:Nat}(d:α)(h:k<l.length):prev l (k+1)=some (l.getD k d):=by
  unfold prev
  rw[if_neg (by omega),Nat.add_sub_cancel,List.getD_eq_getElem?_getD,List.getElem?_eq_getElem h];rfl
theorem prev_pos {α:Type}{l:List α}{k:Nat}(d:α)(h0:0<k)(h:k<l.length):prev l k=some (l.getD (k-1) d):=by
  obtain⟨j,rfl⟩:∃ j,k=j+1:=⟨k-1,by omega⟩
  exact prev_succ d (by omega)
theorem ge_not (x y:Int):decide (x≥y)=!decide (x<y):=by
  rw[← decide_not];exact decide_eq_decide.2 (by omega)
def partsR (blobs:Int):Option D_api_Part→List D_api_Part→Bool
  | _,[]=>true
  | prev,p::l=>partB p&&(!decide (p.2.2.1≥blobs)&&(beforeB ltPart prev p&&partsR blobs (some p) l))
theorem partsR_cons (blobs:Int)(prev:Option D_api_Part)(p:D_api_Part)(l:List D_api_Part):partsR blobs prev (p::l)=(partB p&&(!decide (p.2.2.1≥blobs)&&(beforeB ltPart prev p&&partsR blobs (some p) l))):=rfl
theorem freshL_cons (hi:Int)(pre:List Int)(x:Int)(l:List Int):freshL hi pre (x::l)=(!decide (x<1)&&(!decide (x≥hi)&&(!pre.any (λy=>y==x)&&freshL hi (pre++[x]) l))):=rfl
theorem objsR_cons (s:D_api_State)(prev:Option D_api_Object)(o:D_api_Object)(l:List D_api_Object)(ver:Int):objsR s prev (o::l) ver=(soundB o&&(beforeB ltObject prev o&&(decide (ver+lenO o≤256)&&(o.2.1.all (verS s)&&objsR s (some o) l (ver+lenO o))))):=rfl
theorem upsR_cons (s:D_api_State)(prev:Option D_api_Upload)(u:D_api_Upload)(l:List D_api_Upload):upsR s prev (u::l)=(okU' s u&&(beforeB ltUpload prev u&&upsR s (some u) l)):=rfl
theorem bksR_cons (s:D_api_State)(prev:Option D_api_Bucket)(b:D_api_Bucket)(l:List D_api_Bucket)(ver:Int):bksR s prev (b::l) ver=(bucketB b.1&&(beforeB ltBucket prev b&&(ownT b&&(objsR s none b.2.2.2.2.1 ver&&(upsR s none b.2.2.2.2.2.1&&bksR s (some b) l (ver+sumI lenO b.2.2.2.2.1)))))):=rfl
theorem partsR_is (s:D_api_State):∀ (l:List D_api_Part) (prev:Option D_api_Part),partsR s.2.2.1 prev l=(chk (λ_=>true) ltPart prev l&&l.all (okP' s))
  | [],prev=>by cases prev<;>rfl
  | p::l,prev=>by
    unfold partsR
    rw[chk_cons,List.all_cons,partsR_is s l (some p)]
    unfold okP'
    cases partB p<;>cases decide (p.2.2.1≥s.2.2.1)<;>cases beforeB ltPart prev p<;>cases chk (λ_=>true) ltPart (some p) l<;>rfl
theorem parts_J {n:Nat} (u:D_api_Upload) (blobs:Int) (hl:u.2.2.2.1.length<536870912):∀ (m k:Nat),k≤u.2.2.2.1.length→u.2.2.2.1.length-k<m →
    F_ref15_upload.J2 n m (blobs,(k:Int),u,())=some (partsR blobs (prev u.2.2.2.1 k) (u.2.2.2.1.drop k),())
  | 0,k,_,h=>by omega
  | m + 1,k,hk,h=>by
    rw[F_ref15_upload.e2]
    simp only[hide_n]
    by_cases hlt:k<u.2.2.2.1.length
    · have hg:(0≤(k:Int)∧(k:Int)<((u.2.2.2.1.length:Nat):Int)):=⟨by omega,by omega⟩
      have e3:F_ref15_upload.J3 n m (blobs,(k:Int),u,())=some (partsR blobs (some (u.2.2.2.1.getD k (Va.dflt T_api_Part))) (u.2.2.2.1.drop (k+1)),()):=by
        rw[F_ref15_upload.e3,cast_up k (by omega),parts_J u blobs hl m (k+1) (by omega) (by omega),prev_succ (Va.dflt T_api_Part) hlt]
      rw[decide_eq_true (show (k:Int)<((u.2.2.2.1.length:Nat):Int) by omega),bIf_true,gIf_pos hg,Int.toNat_natCast,ref14_Part,bnd_some,gIf_pos hg,gIf_pos hg,e3,drop_cons (Va.dflt T_api_Part) hlt,partsR_cons]
      by_cases h0:k=0
      · subst h0
        rw[decide_eq_false (show ¬ (((0:Nat):Int)>0) by simp),bIf_false]
        change bIf _ _ (bIf _ _ _)=some (partB _&&(!decide _&&(true&&_)),())
        generalize u.2.2.2.1.getD 0 (Va.dflt T_api_Part)=p
        cases partB p<;>cases decide (p.2.2.1≥blobs)<;>rfl
      · rw[decide_eq_true (show (k:Int)>0 by omega),bIf_true,wrap_i64 (x:=(k:Int)-1) (by omega),gIf_pos ⟨by omega,by omega⟩,show ((k:Int)-1).toNat=k-1 by omega,prev_pos (Va.dflt T_api_Part) (by omega) hlt,ge_not (u.2.2.2.1.getD (k-1) (Va.dflt T_api_Part)).1 (u.2.2.2.1.getD k (Va.dflt T_api_Part)).1]
        unfold beforeB ltPart
        generalize u.2.2.2.1.getD k (Va.dflt T_api_Part)=p
        generalize u.2.2.2.1.getD (k-1) (Va.dflt T_api_Part)=p'
        dsimp only
        cases partB p<;>cases decide (p.2.2.1≥blobs)<;>cases decide (p'.1<p.1)<;>rfl
    · rw[decide_eq_false (show ¬ (k:Int)<((u.2.2.2.1.length:Nat):Int) by omega),bIf_false,F_ref15_upload.e4,List.drop_eq_nil_of_le (by omega)]
      cases prev u.2.2.2.1 k<;>rfl
theorem ref15_upload {n:Nat}(hn:n≤536870912)(h5:40≤n){s:D_api_State}{u:D_api_Upload}(hu:UpS n u):F_ref15_upload.f n u s.2.2.1=some (okU' s u,()):=by
  have hp:=hu.ps
  have hj:=parts_J (n:=n) u s.2.2.1 (by omega) n 0 (by omega) (by omega)
  rw[show ((0:Nat):Int)=0 from rfl,List.drop_zero,show prev u.2.2.2.1 0=none from rfl,partsR_is]at hj
  rw[F_ref15_upload.e0,key30 hu.key hn (by omega),tags38 hn (by omega) hu.tg,F_ref15_upload.e1,hj]
  simp only[hide_n,bnd_some]
  unfold okU' upB
  change bIf (!keyB u.2.1) _ (bIf (!tagsB u.2.2.1) _ (bIf (decide (((u.2.2.2.1.length:Nat):Int)>16)) _ (some (chk (λ_=>true) ltPart none u.2.2.2.1&&_,()))))=_
  cases keyB u.2.1<;>cases tagsB u.2.2.1<;>cases decide (((u.2.2.2.1.length:Nat):Int)>16)<;>rfl
theorem ids_in {n:Nat} (r:List Int) (o:D_api_State) (q:Nat) (k:Nat) (hk:k<r.length) (hl:r.length<1099511627776):∀ (m j:Nat),j≤k→k-j<m →
    F_ref15_Sound.J18 n q m (r,(k:Int),(j:Int),o,())=bIf (((r.take k).drop j).any λy=>y==r.getD k 0) (some (false,())) (F_ref15_Sound.J19 n q (r,(k:Int),o,()))
  | 0,j,_,h=>by omega
  | m + 1,j,hj,h=>by
    rw[F_ref15_Sound.e18]
    simp only[hide_n]
    by_cases hlt:j<k
    · have hlen:(r.take k).length=k:=by rw[List.length_take];omega
      rw[decide_eq_true (show (j:Int)<(k:Int) by omega),bIf_true,gIf_pos ⟨by omega,by omega⟩,gIf_pos ⟨by omega,by omega⟩,Int.toNat_natCast,Int.toNat_natCast,Nat.zero_add,Nat.zero_add,cast_up j (by omega),ids_in r o q k hk hl m (j+1) (by omega) (by omega),
        drop_cons (0:Int) (show j<(r.take k).length by omega),List.any_cons]
      have e:(r.take k).getD j 0=r.getD j 0:=by
        rw[List.getD_eq_getElem?_getD,List.getD_eq_getElem?_getD,List.getElem?_take,if_pos hlt]
      rw[e]
      cases (r.getD j 0==r.getD k 0)<;>rfl
    · have:j=k:=by omega
      subst this
      rw[decide_eq_false (show ¬ (j:Int)<(j:Int) by omega),bIf_false,List.drop_eq_nil_of_le (by rw[List.length_take];omega)];rfl
theorem ids_J {n:Nat} (r:List Int) (o:D_api_State) (hn:r.length<n) (hl:r.length<1099511627776):∀ (m k:Nat),k≤r.length→r.length-k<m →
    F_ref15_Sound.J16 n m (r,(k:Int),o,())=some (freshL o.2.1 (r.take k) (r.drop k),())
  | 0,k,_,h=>by omega
  | m + 1,k,hk,h=>by
    rw[F_ref15_Sound.e16]
    simp only[hide_n]
    by_cases hlt:k<r.length
    · have hg:(0≤(k:Int)∧(k:Int)<((r.length:Nat):Int)):=⟨by omega,by omega⟩
      have hi:=ids_in (n:=n) r o m k hlt hl n 0 (by omega) (by omega)
      rw[show ((0:Nat):Int)=0 from rfl,List.drop_zero,F_ref15_Sound.e19,cast_up k (by omega),ids_J r o hn hl m (k+1) (by omega) (by omega)]at hi
      rw[decide_eq_true (show (k:Int)<((r.length:Nat):Int) by omega),bIf_true,gIf_pos hg,gIf_pos hg,Int.toNat_natCast,Nat.zero_add,F_ref15_Sound.e17,hi,drop_cons (0:Int) hlt]
      have e:r.take (k+1)=r.take k++[r.getD k 0]:=by
        rw[List.take_add_one,List.getD_eq_getElem?_getD,List.getElem?_eq_getElem hlt];rfl
      rw[e,freshL_cons]
      generalize r.getD k 0=x
      generalize freshL o.2.1 (r.take k++[x]) (r.drop (k+1))=z
      cases decide (x<1)<;>cases decide (x≥o.2.1)<;>cases (r.take k).any (λy=>y==x)<;>rfl
    · rw[decide_eq_false (show ¬ (k:Int)<((r.length:Nat):Int) by omega),bIf_false,F_ref15_Sound.e20,List.drop_eq_nil_of_le (by omega)];rfl
theorem ids_all {n:Nat}(r:List Int)(o:D_api_State)(hn:r.length<n)(hl:r.length<1099511627776):F_ref15_Sound.J15 n (r,o,())=some (freshL o.2.1 [] r,()):=by
  rw[F_ref15_Sound.e15]
  have:=ids_J (n:=n) r o hn hl n 0 (by omega) (by omega)
  rw[show ((0:Nat):Int)=0 from rfl,List.drop_zero,List.take_zero]at this
  exact this
abbrev Many:Nat:=1099511627776
theorem bIf_andF {α:Type}(a b:Bool)(x y:α):bIf (a&&b) x y=bIf a (bIf b x y) y:=by cases a<;>rfl
theorem vers_J {n:Nat}(ver a:Int)(t7:Int)(o:D_api_State)(y:D_api_Bucket)(b8:D_api_Object)(p q:Nat)(hl:b8.2.1.length<536870912):∀ (m k:Nat) (r:List Int),k≤b8.2.1.length→b8.2.1.length-k<m→r.length+(b8.2.1.drop k).length<Many →
    F_ref15_Sound.J6 n p q m (r,ver,a,t7,(k:Int),o,y,b8,())=bIf ((b8.2.1.drop k).all (verS o)) (F_ref15_Sound.J9 n p q (r++(b8.2.1.drop k).map (λv=>v.1),ver,a,t7,o,y,())) (some (false,()))
  | 0,k,_,_,h,_=>by omega
  | m + 1,k,r,hk,h,hr=>by
    rw[F_ref15_Sound.e6]
    simp only[hide_n]
    by_cases hlt:k<b8.2.1.length
    · rw[drop_cons (Va.dflt T_api_Version) hlt]at hr ⊢
      rw[List.length_cons]at hr
      have hr:r.length+((b8.2.1.drop (k+1)).length+1)<1099511627776:=hr
      rw[decide_eq_true (show (k:Int)<((b8.2.1.length:Nat):Int) by omega),bIf_true,gIf_pos ⟨by omega,by omega⟩,Int.toNat_natCast]
      generalize b8.2.1.getD k (Va.dflt T_api_Version)=v
      rw[F_ref15_Sound.e7,gIf_pos (by omega),F_ref15_Sound.e8,cast_up k (by omega)]
      have ih:=vers_J (n:=n) ver a t7 o y b8 p q hl m (k+1) (r++[v.1]) (by omega) (by omega) (by rw[List.length_append,List.length_singleton];show _<1099511627776;omega)
      rw[ih,List.all_cons,List.map_cons,List.append_assoc,List.singleton_append]
      change bIf (decide (made v>o.1)) _ (bIf (decide (blob v≥o.2.2.1)) _ _)=_
      unfold verS
      cases decide (made v>o.1)<;>cases decide (blob v≥o.2.2.1)<;>rfl
    · rw[decide_eq_false (show ¬ (k:Int)<((b8.2.1.length:Nat):Int) by omega),bIf_false,List.drop_eq_nil_of_le (by omega),List.map_nil,List.append_nil];rfl
theorem objs_J {n:Nat} (hn:n≤536870912) (h5:40≤n) (a:Int) (o:D_api_State) (y:D_api_Bucket) (p:Nat) (hl:y.2.2.2.2.1.length<536870912) (hob:∀ x∈y.2.2.2.2.1,OB n x):∀ (m k:Nat) (r:List Int) (ver:Int),k≤y.2.2.2.2.1.length→y.2.2.2.2.1.length-k<m→r.length+((y.2.2.2.2.1.drop k).flatMap idsO).length<Many→0≤ver→ver≤256 →
    F_ref15_Sound.J4 n p m (r,ver,a,(k:Int),o,y,())=bIf (objsR o (prev y.2.2.2.2.1 k) (y.2.2.2.2.1.drop k) ver) (F_ref15_Sound.J10 n p (r++(y.2.2.2.2.1.drop k).flatMap idsO,ver+sumI lenO (y.2.2.2.2.1.drop k),a,o,y,())) (some (false,()))
  | 0,k,_,_,_,h,_,_,_=>by omega
  | m + 1,k,r,ver,hk,h,hr,hv0,hv1=>by
    rw[F_ref15_Sound.e4]
    simp only[hide_n]
    by_cases hlt:k<y.2.2.2.2.1.length
    · have hx:=hob _ (getD_memA (d:=Va.dflt T_api_Object) hlt)
      rw[drop_cons (Va.dflt T_api_Object) hlt]at hr ⊢
      rw[List.flatMap_cons,List.length_append]at hr
      rw[List.flatMap_cons,sumI_cons]
      have hpr:beforeB ltObject (prev y.2.2.2.2.1 k) (y.2.2.2.2.1.getD k (Va.dflt T_api_Object))=(decide (k=0)||ltS (y.2.2.2.2.1.getD (k-1) (Va.dflt T_api_Object)).1 (y.2.2.2.2.1.getD k (Va.dflt T_api_Object)).1):=by
        by_cases h0:k=0
        · subst h0;rfl
        · rw[prev_pos (Va.dflt T_api_Object) (by omega) hlt,decide_eq_false h0];rfl
      have hps:=prev_succ (Va.dflt T_api_Object) hlt
      rw[objsR_cons,hpr]
      rw[decide_eq_true (show (k:Int)<((y.2.2.2.2.1.length:Nat):Int) by omega),bIf_true,gIf_pos ⟨by omega,by omega⟩,Int.toNat_natCast,ref13_Sound hn h5 hx,bnd_some]
      have ih:=λr ver=>objs_J hn h5 a o y p hl hob m (k+1) r ver (by omega) (by omega)
      rw[hps]at ih
      generalize y.2.2.2.2.1.getD k (Va.dflt T_api_Object)=x at hx hr ih ⊢
      have hxl:=hx.list.len
      have e5:F_ref15_Sound.J5 n p m (r,ver,a,(k:Int),o,y,x,())=bIf (decide (ver+lenO x≤256)&&(x.2.1.all (verS o)&&objsR o (some x) (y.2.2.2.2.1.drop (k+1)) (ver+lenO x))) (F_ref15_Sound.J10 n p (r++(idsO x++(y.2.2.2.2.1.drop (k+1)).flatMap idsO),ver+(lenO x+sumI lenO (y.2.2.2.2.1.drop (k+1))),a,o,y,())) (some (false,())):=by
        have hlx:lenO x=((x.2.1.length:Nat):Int):=rfl
        have hid:(idsO x).length=x.2.1.length:=by unfold idsO;rw[List.length_map]
        rw[F_ref15_Sound.e5,hide_n,wrap_i64 (by omega),← hlx]
        by_cases h2:ver+lenO x≤256
        · rw[decide_eq_false (show ¬ (ver+lenO x>256) by omega),bIf_false,decide_eq_true h2,Bool.true_and]
          have:=vers_J (n:=n) (ver+lenO x) a (k:Int) o y x p m (by omega) n 0 r (by omega) (by omega) (by rw[List.drop_zero];omega)
          rw[show ((0:Nat):Int)=0 from rfl,List.drop_zero]at this
          rw[this,F_ref15_Sound.e9,cast_up k (by omega),ih _ _ (by rw[List.length_append];change _+(idsO x).length+_<_;omega) (by omega) h2,bIf_andF,List.append_assoc,Int.add_assoc]
          rfl
        · rw[decide_eq_true (show ver+lenO x>256 by omega),bIf_true,decide_eq_false h2];rfl
      rw[e5]
      by_cases h0:k=0
      · subst h0
        rw[decide_eq_false (show ¬ (((0:Nat):Int)>0) by simp),bIf_false]
        change bIf (!soundB x) _ _=bIf (soundB x&&(true&&_)) _ _
        cases soundB x<;>rfl
      · rw[decide_eq_true (show (k:Int)>0 by omega),bIf_true,wrap_i64 (x:=(k:Int)-1) (by omega),gIf_pos ⟨by omega,by omega⟩,show ((k:Int)-1).toNat=k-1 by omega,decide_eq_false h0,Bool.false_or]
        dsimp only
        cases soundB x<;>cases ltS (y.2.2.2.2.1.getD (k-1) (Va.dflt T_api_Object)).1 x.1<;>rfl
    · rw[decide_eq_false (show ¬ (k:Int)<((y.2.2.2.2.1.length:Nat):Int) by omega),bIf_false,List.drop_eq_nil_of_le (by omega)]
      have:sumI lenO []=0:=rfl
      rw[this,Int.add_zero,List.flatMap_nil,List.append_nil]
      cases prev y.2.2.2.2.1 k<;>rfl
theorem ups_J {n:Nat} (hn:n≤536870912) (h5:40≤n) (ver a:Int) (o:D_api_State) (y:D_api_Bucket) (p:Nat) (hl:y.2.2.2.2.2.1.length<536870912) (hup:∀ x∈y.2.2.2.2.2.1,UpS n x):∀ (m k:Nat) (r:List Int),k≤y.2.2.2.2.2.1.length→y.2.2.2.2.2.1.length-k<m→r.length+(y.2.2.2.2.2.1.drop k).length<Many →
    F_ref15_Sound.J11 n p m (r,ver,a,(k:Int),o,y,())=bIf (upsR o (prev y.2.2.2.2.2.1 k) (y.2.2.2.2.2.1.drop k)) (F_ref15_Sound.J14 n p (r++(y.2.2.2.2.2.1.drop k).flatMap (λu=>[u.1]),ver,a,o,())) (some (false,()))
  | 0,k,_,_,h,_=>by omega
  | m + 1,k,r,hk,h,hr=>by
    rw[F_ref15_Sound.e11]
    simp only[hide_n]
    by_cases hlt:k<y.2.2.2.2.2.1.length
    · have hx:=hup _ (getD_memA (d:=Va.dflt T_api_Upload) hlt)
      have hg:(0≤(k:Int)∧(k:Int)<((y.2.2.2.2.2.1.length:Nat):Int)):=⟨by omega,by omega⟩
      rw[drop_cons (Va.dflt T_api_Upload) hlt]at hr ⊢
      rw[List.length_cons]at hr
      have hr:r.length+((y.2.2.2.2.2.1.drop (k+1)).length+1)<1099511627776:=hr
      have e12:F_ref15_Sound.J12 n p m (r,ver,a,(k:Int),o,y,())=F_ref15_Sound.J11 n p m (r++[(y.2.2.2.2.2.1.getD k (Va.dflt T_api_Upload)).1],ver,a,((k+1:Nat):Int),o,y,()):=by
        rw[F_ref15_Sound.e12,gIf_pos hg,Int.toNat_natCast,gIf_pos (by omega),F_ref15_Sound.e13,cast_up k (by omega)]
      have hpr:beforeB ltUpload (prev y.2.2.2.2.2.1 k) (y.2.2.2.2.2.1.getD k (Va.dflt T_api_Upload))=(decide (k=0)||decide ((y.2.2.2.2.2.1.getD (k-1) (Va.dflt T_api_Upload)).1<(y.2.2.2.2.2.1.getD k (Va.dflt T_api_Upload)).1)):=by
        by_cases h0:k=0
        · subst h0;rfl
        · rw[prev_pos (Va.dflt T_api_Upload) (by omega) hlt,decide_eq_false h0];rfl
      have hps:=prev_succ (Va.dflt T_api_Upload) hlt
      rw[upsR_cons,hpr,List.flatMap_cons]
      rw[decide_eq_true (show (k:Int)<((y.2.2.2.2.2.1.length:Nat):Int) by omega),bIf_true,gIf_pos hg,gIf_pos hg,Int.toNat_natCast,ref15_upload hn h5 hx,bnd_some,e12]
      have ih:=ups_J hn h5 ver a o y p hl hup m (k+1) (r++[(y.2.2.2.2.2.1.getD k (Va.dflt T_api_Upload)).1]) (by omega) (by omega) (by rw[List.length_append,List.length_singleton];show _<1099511627776;omega)
      rw[hps]at ih
      rw[ih,List.append_assoc]
      generalize y.2.2.2.2.2.1.getD k (Va.dflt T_api_Upload)=x
      by_cases h0:k=0
      · subst h0
        rw[decide_eq_false (show ¬ (((0:Nat):Int)>0) by simp),bIf_false]
        change bIf (!okU' o x) _ _=bIf (okU' o x&&(true&&_)) _ _
        cases okU' o x<;>rfl
      · rw[decide_eq_true (show (k:Int)>0 by omega),bIf_true,wrap_i64 (x:=(k:Int)-1) (by omega),gIf_pos ⟨by omega,by omega⟩,show ((k:Int)-1).toNat=k-1 by omega,decide_eq_false h0,Bool.false_or,ge_not (y.2.2.2.2.2.1.getD (k-1) (Va.dflt T_api_Upload)).1 x.1]
        dsimp only
        cases okU' o x<;>cases decide ((y.2.2.2.2.2.1.getD (k-1) (Va.dflt T_api_Upload)).1<x.1)<;>rfl
    · rw[decide_eq_false (show ¬ (k:Int)<((y.2.2.2.2.2.1.length:Nat):Int) by omega),bIf_false,List.drop_eq_nil_of_le (by omega),List.flatMap_nil,List.append_nil]
      cases prev y.2.2.2.2.2.1 k<;>rfl
theorem ups_len (l:List D_api_Upload):(l.flatMap λu=>[u.1]).length=l.length:=by
  induction l with
  | nil=>rfl
  | cons x l ih=>rw[List.flatMap_cons,List.length_append,ih,List.length_cons];simp;omega
theorem bks_J {n:Nat} (h3:300≤n) (hn:n≤536870912) (o:D_api_State) (hl:o.2.2.2.1.length<536870912) (hbk:∀ b∈o.2.2.2.1,BkS n b):∀ (m k:Nat) (r:List Int) (ver:Int),k≤o.2.2.2.1.length→o.2.2.2.1.length-k<m→r.length+((o.2.2.2.1.drop k).flatMap idsB).length<Many→0≤ver→ver≤256 →
    F_ref15_Sound.J2 n m (r,ver,(k:Int),o,())=bIf (bksR o (prev o.2.2.2.1 k) (o.2.2.2.1.drop k) ver) (F_ref15_Sound.J15 n (r++(o.2.2.2.1.drop k).flatMap idsB,o,())) (some (false,()))
  | 0,k,_,_,_,h,_,_,_=>by omega
  | m + 1,k,r,ver,hk,h,hr,hv0,hv1=>by
    rw[F_ref15_Sound.e2]
    simp only[hide_n]
    by_cases hlt:k<o.2.2.2.1.length
    · have hx:=hbk _ (getD_memA (d:=Va.dflt T_api_Bucket) hlt)
      have hg:(0≤(k:Int)∧(k:Int)<((o.2.2.2.1.length:Nat):Int)):=⟨by omega,by omega⟩
      rw[drop_cons (Va.dflt T_api_Bucket) hlt]at hr ⊢
      rw[List.flatMap_cons,List.length_append]at hr
      rw[List.flatMap_cons]
      have hpr:beforeB ltBucket (prev o.2.2.2.1 k) (o.2.2.2.1.getD k (Va.dflt T_api_Bucket))=(decide (k=0)||ltS (o.2.2.2.1.getD (k-1) (Va.dflt T_api_Bucket)).1 (o.2.2.2.1.getD k (Va.dflt T_api_Bucket)).1):=by
        by_cases h0:k=0
        · subst h0;rfl
        · rw[prev_pos (Va.dflt T_api_Bucket) (by omega) hlt,decide_eq_false h0];rfl
      have hps:=prev_succ (Va.dflt T_api_Bucket) hlt
      rw[bksR_cons,hpr]
      rw[decide_eq_true (show (k:Int)<((o.2.2.2.1.length:Nat):Int) by omega),bIf_true,gIf_pos hg,Int.toNat_natCast,ref06_Bucket h3,bnd_some,ref12_Good,ref14_Rules hn (by omega) hx.ru,ref14_Grants hn hx.gr]
      simp only[bnd_some]
      have ih:=λr ver=>bks_J h3 hn o hl hbk m (k+1) r ver (by omega) (by omega)
      rw[hps]at ih
      generalize o.2.2.2.1.getD k (Va.dflt T_api_Bucket)=x at hx hr ih ⊢
      have hol:=hx.ol
      have hul:=hx.ul
      have e3:F_ref15_Sound.J3 n m (r,ver,(k:Int),o,x,())=bIf (objsR o none x.2.2.2.2.1 ver&&(upsR o none x.2.2.2.2.2.1&&bksR o (some x) (o.2.2.2.1.drop (k+1)) (ver+sumI lenO x.2.2.2.2.1))) (F_ref15_Sound.J15 n (r++(idsB x++(o.2.2.2.1.drop (k+1)).flatMap idsB),o,())) (some (false,())):=by
        have hid:(idsB x).length=(x.2.2.2.2.1.flatMap idsO).length+x.2.2.2.2.2.1.length:=by unfold idsB;rw[List.length_append,ups_len]
        have hr:r.length+((idsB x).length+((o.2.2.2.1.drop (k+1)).flatMap idsB).length)<1099511627776:=hr
        have h4:=objs_J (n:=n) hn (by omega) (k:Int) o x m (by omega) hx.ob n 0 r ver (by omega) (by omega) (by rw[List.drop_zero];show _<1099511627776;omega) hv0 hv1
        rw[show ((0:Nat):Int)=0 from rfl,List.drop_zero]at h4
        rw[F_ref15_Sound.e3,h4,bIf_andF]
        change bIf (objsR o none _ _) _ _=_
        cases ho:objsR o none x.2.2.2.2.1 ver with
        | false=>rfl
        | true=>
          have hsum:ver+sumI lenO x.2.2.2.2.1≤256:=by
            rw[objsR_is o _ none ver hv1]at ho
            simp only[Bool.and_eq_true,decide_eq_true_eq]at ho
            exact ho.2.2
          have hnn:0≤sumI lenO x.2.2.2.2.1:=sumI_nn λo _=>lenO_nn o
          have h11:=ups_J (n:=n) hn (by omega) (ver+sumI lenO x.2.2.2.2.1) (k:Int) o x m (by omega) hx.up n 0 (r++x.2.2.2.2.1.flatMap idsO) (by omega) (by omega) (by rw[List.drop_zero,List.length_append];show _<1099511627776;omega)
          rw[show ((0:Nat):Int)=0 from rfl,List.drop_zero]at h11
          rw[bIf_true,bIf_true,F_ref15_Sound.e10,h11,F_ref15_Sound.e14,cast_up k (by omega),ih _ _ (by rw[List.length_append,List.length_append,ups_len];show _<1099511627776;omega) (by omega) hsum,bIf_andF,List.append_assoc,List.append_assoc]
          unfold idsB
          rw[List.append_assoc]
          rfl
      rw[e3]
      unfold ownT
      by_cases h0:k=0
      · subst h0
        rw[decide_eq_false (show ¬ (((0:Nat):Int)>0) by simp),bIf_false]
        change bIf (!bucketB x.1) _ (bIf (!modeB x.2.1) _ (bIf (!rulesB x.2.2.1) _ (bIf (!grantsB x.2.2.2.1) _ (bIf (decide (((x.2.2.2.2.2.1.length:Nat):Int)>4)) _ _))))=bIf (bucketB x.1&&(true&&_)) _ _
        cases bucketB x.1<;>cases modeB x.2.1<;>cases rulesB x.2.2.1<;>cases grantsB x.2.2.2.1<;>cases decide (((x.2.2.2.2.2.1.length:Nat):Int)>4)<;>rfl
      · rw[decide_eq_true (show (k:Int)>0 by omega),bIf_true,wrap_i64 (x:=(k:Int)-1) (by omega),gIf_pos ⟨by omega,by omega⟩,show ((k:Int)-1).toNat=k-1 by omega,decide_eq_false h0,Bool.false_or]
        generalize (o.2.2.2.1.getD (k-1) (Va.dflt T_api_Bucket))=x'
        change bIf (!bucketB x.1) _ (bIf (!ltS x'.1 x.1) _ (bIf (!modeB x.2.1) _ (bIf (!rulesB x.2.2.1) _ (bIf (!grantsB x.2.2.2.1) _ (bIf (decide (((x.2.2.2.2.2.1.length:Nat):Int)>4)) _ _)))))=_
        cases bucketB x.1<;>cases ltS x'.1 x.1<;>cases modeB x.2.1<;>cases rulesB x.2.2.1<;>cases grantsB x.2.2.2.1<;>cases decide (((x.2.2.2.2.2.1.length:Nat):Int)>4)<;>rfl
    · rw[decide_eq_false (show ¬ (k:Int)<((o.2.2.2.1.length:Nat):Int) by omega),bIf_false,List.drop_eq_nil_of_le (by omega),List.flatMap_nil,List.append_nil]
      cases prev o.2.2.2.1 k<;>rfl
theorem ref15_Sound {n:Nat}(h3:300≤n)(hn:n≤536870912){s:D_api_State}(hs:StS n s):F_ref15_Sound.f n s=some (stateB s,()):=by
  have hl:=hs.len
  have hf:(idsS s).length<n:=hs.few
  have h2:=bks_J h3 hn s (by omega) hs.bk n 0 [] 0 (by omega) (by omega) (by rw[List.drop_zero];change 0+(idsS s).length<1099511627776;omega) (Int.le_refl 0) (by decide)
  rw[show ((0:Nat):Int)=0 from rfl,List.drop_zero,List.nil_append]at h2
  have h15:=ids_all (n:=n) (idsS s) s hf (by omega)
  have h2:F_ref15_Sound.J2 n n ([],0,0,s,())=bIf (bksR s none s.2.2.2.1 0) (F_ref15_Sound.J15 n (idsS s,s,())) (some (false,())):=h2
  rw[F_ref15_Sound.e0,clamp36,F_ref15_Sound.e1,h2,h15,stateB_is]
  simp only[hide_n,bnd_some]
  unfold topB
  change bIf (clampI s.1 != s.1) _ (bIf _ _ (bIf _ _ (bIf _ _ (bIf _ _ (bIf _ _ (bIf (bksR s none s.2.2.2.1 0) _ _))))))=_
  have ec:(clampI s.1 != s.1)=!(s.1==clampI s.1):=by
    by_cases e:s.1=clampI s.1
    · rw[← e];simp
    · rw[show (s.1==clampI s.1)=false from beq_eq_false_iff_ne.2 e]
      exact bne_iff_ne.2 (λq=>e q.symm)
  rw[ec]
  cases (s.1==clampI s.1)<;>cases decide (s.2.1<1)<;>cases decide (s.2.1>4611686018427387904)<;>cases decide (s.2.2.1<1)<;>cases decide (s.2.2.1>4611686018427387904)<;>cases decide ((s.2.2.2.1.length:Int)>16)<;>cases bksR s none s.2.2.2.1 0<;>rfl
end Go.Proofs.YtemhlkdingkjnaaGreatDoor
namespace Go.Proofs.YtemhlkdingkjnaaGreatDoor
open Go Go.Va Go.Proofs Go.ChangeShapes Go.WideShapes Go.ChangeAt Go.RowKit
theorem kids:Kids Tryz.prog (· < Tryz.prog.types.size):=kids_rows (by kernel_rfl) (by kernel_rfl)
theorem full:∀ t e,t<Tryz.prog.types.size→Tryz.prog.underlying t=some (.slice e)→0<Tryz.prog.cellsOf e:=slices_full_of Tryz.prog (by kernel_rfl)
theorem own:ownKnob Tryz.prog.godebug=none:=by kernel_rfl
mutual
theorem bulk_eq {H:Type}:∀ (d:DataW H),Rows.uptoBulk d=bulk d
  | .lit l=>by cases l<;>simp[Rows.uptoBulk,bulk]
  | .nil=>by simp[Rows.uptoBulk,bulk]
  | .ptr d=>by simp[Rows.uptoBulk,bulk,bulk_eq d]
  | .slice elems spare=>by simp[Rows.uptoBulk,bulk,bulkL_eq elems,bulkL_eq spare]
  | .agg parts=>by simp[Rows.uptoBulk,bulk,bulkL_eq parts]
  | .iface _ d=>by simp[Rows.uptoBulk,bulk,bulk_eq d]
  | .map entries=>by simp[Rows.uptoBulk,bulk,bulkE_eq entries]
  | .held _=>by simp[Rows.uptoBulk,bulk]
theorem bulkL_eq {H:Type}:∀ (l:List (DataW H)),Rows.uptoBulkAll l=bulkL l
  | []=>by simp[Rows.uptoBulkAll,bulkL]
  | d::r=>by simp[Rows.uptoBulkAll,bulkL,bulk_eq d,bulkL_eq r]
theorem bulkE_eq {H:Type}:∀ (l:List (Lit×DataW H)),Rows.uptoBulkEntries l=bulkE l
  | []=>by simp[Rows.uptoBulkEntries,bulkE]
  | x::r=>by simp[Rows.uptoBulkEntries,bulkE,bulkX_eq x,bulkE_eq r]
theorem bulkX_eq {H:Type}:∀ (x:Lit×DataW H),Rows.uptoBulkEntry x=bulkX x
  | (l,d)=>by cases l<;>simp[Rows.uptoBulkEntry,bulkX,bulk_eq d]
end
theorem small_of {H:Type}{ds gs:List (DataW H)}(h:Rows.uptoSmall H (ds++gs)=true):bulkL ds≤1048576:=by
  have h:=of_decide_eq_true h
  rw[bulkL_eq,bulkL_append]at h
  omega
theorem vol_mem {e:Ty}{l:List (Den e)}{x:Den e}(h:x∈l):vol e x≤(l.map (vol e)).sum:=by
  induction l with
  | nil=>simp at h
  | cons y l ih=>
    rw[List.map_cons,List.sum_cons]
    rcases List.mem_cons.1 h with rfl | h
    · omega
    · have:=ih h;omega
theorem vol_len {e:Ty}{l:List (Den e)}(h:∀ x∈l,1≤vol e x):l.length≤(l.map (vol e)).sum:=by
  induction l with
  | nil=>simp
  | cons y l ih=>
    rw[List.map_cons,List.sum_cons,List.length_cons]
    have h1:=h y List.mem_cons_self
    have h2:=ih (λx hx=>h x (List.mem_cons_of_mem _ hx))
    omega
theorem vol_Tag (t:D_api_Tag):vol T_api_Tag t=t.1.size+1+(t.2.1.size+1):=rfl
theorem vol_Ver (v:Ver):vol T_api_Version v=1+(1+(1+(1+((((dig v).map (vol (.int .u8))).sum+1)+(1+(vol T_api_Lock (lock v)+((((tags v).map (vol T_api_Tag)).sum+1)+0))))))):=rfl
theorem vol_Rule (r:D_api_Rule):vol T_api_Rule r=r.1.size+1+(((r.2.1.map (vol T_api_Tag)).sum+1)+vol T_api_Lock r.2.2):=rfl
theorem vol_Grant (g:D_api_Grant):vol T_api_Grant g=1+(g.2.1.size+1+(g.2.2.1.size+1+(g.2.2.2.1.size+1))):=rfl
theorem Ts_of {n:Nat}{l:List D_api_Tag}(h:(l.map (vol T_api_Tag)).sum<n):TsB n l:=by
  have hl:=vol_len (e:=T_api_Tag) (l:=l) (λx _=>by rw[vol_Tag];omega)
  exact⟨by omega,λt ht=>by have:=vol_mem (e:=T_api_Tag) ht;rw[vol_Tag]at this;exact⟨by omega,by omega⟩⟩
theorem vol_Part (p:D_api_Part):1≤vol T_api_Part p:=by
  change 1≤1+_
  omega
theorem vol_Up (u:D_api_Upload):vol T_api_Upload u=1+(u.2.1.size+1+(((u.2.2.1.map (vol T_api_Tag)).sum+1)+(((u.2.2.2.1.map (vol T_api_Part)).sum+1)+0))):=rfl
theorem vol_Ob (o:D_api_Object):vol T_api_Object o=o.1.size+1+(((o.2.1.map (vol T_api_Version)).sum+1)+0):=rfl
theorem vol_Bk (b:D_api_Bucket):vol T_api_Bucket b=b.1.size+1+(vol T_api_Default b.2.1+(((b.2.2.1.map (vol T_api_Rule)).sum+1)+(((b.2.2.2.1.map (vol T_api_Grant)).sum+1)+(((b.2.2.2.2.1.map (vol T_api_Object)).sum+1)+(((b.2.2.2.2.2.1.map (vol T_api_Upload)).sum+1)+0))))):=rfl
theorem vol_St (s:D_api_State):vol T_api_State s=1+(1+(1+(((s.2.2.2.1.map (vol T_api_Bucket)).sum+1)+0))):=rfl
theorem u64nn {x:Int}(h:IntKind.u64.min≤x∧x≤IntKind.u64.max):0≤x:=h.1
theorem VB_of {n:Nat}{v:Ver}(hw:Wf T_api_Version v)(h:vol T_api_Version v<n):VB n v:=by
  rw[vol_Ver]at h
  exact⟨u64nn hw.1,u64nn hw.2.2.2.1,hw.2.2.2.2.1.1,Ts_of (by omega)⟩
theorem OB_of {n:Nat}{o:D_api_Object}(hw:Wf T_api_Object o)(h:vol T_api_Object o<n):OB n o:=by
  rw[vol_Ob]at h
  have l1:=vol_len (e:=T_api_Version) (l:=o.2.1) (λx _=>by rw[vol_Ver];omega)
  refine⟨by omega,by omega,λv hv=>VB_of (hw.2.1.2 v hv) ?_⟩
  have:=vol_mem (e:=T_api_Version) hv
  omega
theorem US_of {n:Nat}{u:D_api_Upload}(h:vol T_api_Upload u<n):UpS n u:=by
  rw[vol_Up]at h
  have l2:=vol_len (e:=T_api_Part) (l:=u.2.2.2.1) (λx _=>vol_Part x)
  exact⟨by omega,Ts_of (by omega),by omega⟩
theorem BS_of {n:Nat}{b:D_api_Bucket}(hw:Wf T_api_Bucket b)(h:vol T_api_Bucket b<n):BkS n b:=by
  rw[vol_Bk]at h
  have l1:=vol_len (e:=T_api_Rule) (l:=b.2.2.1) (λx _=>by rw[vol_Rule];omega)
  have l2:=vol_len (e:=T_api_Grant) (l:=b.2.2.2.1) (λx _=>by rw[vol_Grant];omega)
  have l3:=vol_len (e:=T_api_Object) (l:=b.2.2.2.2.1) (λx _=>by rw[vol_Ob];omega)
  have l4:=vol_len (e:=T_api_Upload) (l:=b.2.2.2.2.2.1) (λx _=>by rw[vol_Up];omega)
  refine⟨⟨by omega,λr hr => ?_⟩,⟨by omega,λg hg => ?_⟩,by omega,λo ho=>OB_of (hw.2.2.2.2.1.2 o ho) ?_,by omega,λu hu=>US_of ?_⟩
  · have:=vol_mem (e:=T_api_Rule) hr
    rw[vol_Rule]at this
    exact⟨by omega,Ts_of (by omega)⟩
  · have:=vol_mem (e:=T_api_Grant) hg
    rw[vol_Grant]at this
    exact⟨by omega,by omega,by omega⟩
  · have:=vol_mem (e:=T_api_Object) ho
    omega
  · have:=vol_mem (e:=T_api_Upload) hu
    omega
theorem sum_le {α:Type}{f g:α→Nat}:∀ {l:List α},(∀ x∈l,f x≤g x)→(l.map f).sum≤(l.map g).sum
  | [],_=>by simp
  | x::l,h=>by
    rw[List.map_cons,List.map_cons,List.sum_cons,List.sum_cons]
    have h1:=h x (by simp)
    have h2:=sum_le (l:=l) λy hy=>h y (by simp[hy])
    omega
theorem sumI_le {α:Type}{f:α→Int}{g:α→Nat}:∀ {l:List α},(∀ x∈l,f x≤(g x:Int))→sumI f l≤(((l.map g).sum:Nat):Int)
  | [],_=>by simp[sumI]
  | x::l,h=>by
    rw[sumI_cons,List.map_cons,List.sum_cons]
    have h1:=h x (by simp)
    have h2:=sumI_le (l:=l) λy hy=>h y (by simp[hy])
    omega
theorem lenB_le (b:D_api_Bucket):lenB b≤(vol T_api_Bucket b:Int):=by
  rw[vol_Bk,lenB_is]
  have h1:sumI lenO b.2.2.2.2.1≤(((b.2.2.2.2.1.map (vol T_api_Object)).sum:Nat):Int):=sumI_le λo _=>by
    rw[vol_Ob]
    have l1:=vol_len (e:=T_api_Version) (l:=o.2.1) (λx _=>by rw[vol_Ver];omega)
    unfold lenO;omega
  omega
theorem flat_le {α β:Type}{f:α→List β}{g:α→Nat}:∀ {l:List α},(∀ x∈l,(f x).length≤g x)→(l.flatMap f).length≤(l.map g).sum
  | [],_=>by simp
  | x::l,h=>by
    rw[List.flatMap_cons,List.length_append,List.map_cons,List.sum_cons]
    have h1:=h x (by simp)
    have h2:=flat_le (l:=l) λy hy=>h y (by simp[hy])
    omega
theorem idsB_le (b:D_api_Bucket):(idsB b).length≤vol T_api_Bucket b:=by
  rw[vol_Bk]
  unfold idsB
  rw[List.length_append]
  have h1:(b.2.2.2.2.1.flatMap idsO).length≤(b.2.2.2.2.1.map (vol T_api_Object)).sum:=flat_le λo _=>by
    rw[vol_Ob]
    have l1:=vol_len (e:=T_api_Version) (l:=o.2.1) (λx _=>by rw[vol_Ver];omega)
    unfold idsO;rw[List.length_map];omega
  have h2:(b.2.2.2.2.2.1.flatMap λu=>[u.1]).length≤(b.2.2.2.2.2.1.map (vol T_api_Upload)).sum:=flat_le λu _=>by
    rw[vol_Up,List.length_singleton];omega
  omega
theorem S_of {s:D_api_State}(h:vol T_api_State s<2097152)(hw:Wf T_api_State s):StS 2097152 s:=by
  rw[vol_St]at h
  have l1:=vol_len (e:=T_api_Bucket) (l:=s.2.2.2.1) (λx _=>by rw[vol_Bk];omega)
  refine⟨by omega,λb hb=>BS_of (hw.2.2.2.1.2 b hb) ?_,?_,?_⟩
  · have:=vol_mem (e:=T_api_Bucket) hb
    omega
  · have:sumI lenB s.2.2.2.1≤(((s.2.2.2.1.map (vol T_api_Bucket)).sum:Nat):Int):=sumI_le λb _=>lenB_le b
    have:((2097152:Nat):Int)≤Lim:=by decide
    omega
  · have:(s.2.2.2.1.flatMap idsB).length≤(s.2.2.2.1.map (vol T_api_Bucket)).sum:=flat_le λb _=>idsB_le b
    omega
theorem acc_eq:(Rows.laid_unicode_utf8_acceptRanges:DataW Unit)=Lib.acceptData:=by kernel_rfl
theorem fst_eq:Rows.laid_unicode_utf8_first=Lib.firstData:=by kernel_rfl
theorem tabs_of {W : World} (h3 : Lib.VarReads Tryz.prog W "unicode/utf8.first" Lib.firstData) (h4 : Lib.VarReads Tryz.prog W "unicode/utf8.acceptRanges" Lib.acceptData) : Lib.Utf8Tabs 0 1 W :=
  utf8Tabs_of_readsT (U8Types.of196 Tryz.l196) ⟨by kernel_rfl,by kernel_rfl,by kernel_rfl,by kernel_rfl,by kernel_rfl,by kernel_rfl,by kernel_rfl⟩ h3 h4
theorem live_of {W:World}{b o:Nat}{v:Value}(h:W.cell? ⟨b,o,none⟩=some v):b<W.heap.size:=by
  rcases Nat.lt_or_ge b W.heap.size with hb | hb
  · exact hb
  · have:W.heap[b]?=none:=Array.getElem?_eq_none hb
    simp[World.cell?,this]at h
theorem gl_tab {W:World}(h:Lib.Utf8Tabs 0 1 W)(hsh:W.ShapedOpen Tryz.prog):∀ p∈Gl.tab,p.1<W.heap.size∧∃ cs,p.2 cs∧At W ⟨p.1,0,none⟩ cs:=by
  obtain⟨h0,h1⟩:=h
  intro p hp
  have hp:p=(0,λcs=>cs=firstCells)∨p=(1,λcs=>cs=acceptCells)∨p=(2,λcs=>∃ m,cs=[.int .i64 m]):=by simpa[Gl.tab]using hp
  rcases hp with rfl | rfl | rfl
  · refine⟨live_of (h0 0 (by omega)),_,rfl,rfl,λj hj => ?_⟩
    have hj2:j<256:=by simpa[firstCells,Lib.firstTab]using hj
    simp only[Nat.zero_add]
    rw[h0 j hj2]
    simp[firstCells,Lib.firstTab]
  · refine⟨live_of (h1 0 (by omega)).1,_,rfl,rfl,λj hj => ?_⟩
    have hl:acceptCells.length=32:=by kernel_rfl
    have hj2:j<32:=by rw[← hl];exact hj
    simp only[Nat.zero_add]
    obtain⟨e0,e1⟩:=acc_get (j/2) (by omega)
    obtain⟨c0,c1⟩:=h1 (j/2) (by omega)
    rcases Nat.mod_two_eq_zero_or_one j with hm | hm
    · have ej:j=2*(j/2):=by omega
      rw[show (⟨1,j,none⟩:Addr)=⟨1,2*(j/2),none⟩ by rw[← ej],c0,← e0,← ej,List.getElem?_eq_getElem hj]
    · have ej:j=2*(j/2)+1:=by omega
      rw[show (⟨1,j,none⟩:Addr)=⟨1,2*(j/2)+1,none⟩ by rw[← ej],c1,← e1,← ej,List.getElem?_eq_getElem hj]
  · obtain⟨m,hm⟩:=cell_of_shapedOpen_int (P:=Tryz.prog) (g:=2) (t:=3) (zero := #[.int .i64 0]) hsh (of_decide_eq_true (by kernel_rfl)) (by kernel_rfl) rfl (by kernel_rfl) (by kernel_rfl) Tryz.underlying3
    refine⟨live_of hm,_,⟨m,rfl⟩,rfl,λj hj => ?_⟩
    obtain rfl:j=0:=by simpa using hj
    simpa using hm
abbrev laidAll : List (String × DataW Unit) := [("unicode/utf8.acceptRanges", Rows.laid_unicode_utf8_acceptRanges), ("unicode/utf8.first", Rows.laid_unicode_utf8_first)]
theorem noHandle {W:World}(h:laidMetH Tryz.prog laidAll W):laidMet Tryz.prog laidAll W:=by
  have e:(laidAll.filter λx=>x.2.handleName?.isSome)=[]:=by kernel_rfl
  unfold laidMetH at h
  rw[e]at h
  exact h
theorem gl_of {W:World}(hL:laidMet Tryz.prog laidAll W)(hsh:W.ShapedOpen Tryz.prog):(∀ p∈Gl.tab,p.1<W.heap.size∧∃ cs,p.2 cs∧At W ⟨p.1,0,none⟩ cs)∧∀ p∈Gl.ex,∃ o,W.heap[p.1]?=some o∧p.2 o:=
  ⟨gl_tab (tabs_of (fst_eq ▸ Lib.laidMet.reads hL (.tail _ (.head _))) (acc_eq ▸ Lib.laidMet.reads hL (.head _))) hsh,λp hp=>by simp[Gl.ex]at hp⟩
noncomputable def laidWorld (os:Os):World:=
  let w0:=World.holding Tryz.prog os ⟨#[],#[],[]⟩
  let put (h:Array Obj) (g:Nat) (cs:Array Value):Array Obj:=h.modify g fun
    | .cells _ t frozen => .cells cs t frozen
    | o=>o
  let h1:=put w0.heap 0 firstCells.toArray
  let h2:=put h1 1 acceptCells.toArray
  { w0 with heap:=h2 }
set_option maxRecDepth 100000 in
theorem laid_met (os:Os)(args:Array Value):laidMet Tryz.prog Rows.countHoldersUptoRow.laid ((laidWorld os).forCall (λ_ _=>0) ⟨#[],args,[]⟩).memory:=
  (LaidIn.of_run (l := [("unicode/utf8.acceptRanges", Lib.acceptData), ("unicode/utf8.first", Lib.firstData)]) [0, 1] 8 (by kernel_rfl) (by kernel_rfl) (by kernel_rfl) (by kernel_rfl)).met
def zS:Array Value := #[Value.int IntKind.i64 0,Value.int IntKind.u64 0,Value.int IntKind.u64 0,Value.slice none 0 0]
def dS {H:Type}:DataW H := .agg [.lit (.int .i64 0),.lit (.int .u64 0),.lit (.int .u64 0),.nil]
theorem getL {α:Type}{a:Array α}{i:Nat}{x:α}(h:a.toList[i]?=some x):a[i]?=some x:=by simpa using h
theorem and_i {a b:Bool}(ha:a=true)(hb:b=true):(a&&b)=true:=by rw[ha,hb];rfl
theorem factLaid:laidOutB Tryz.pinned.checked.prog=true:=by kernel_rfl
theorem factMaps:mapsRowed Tryz.pinned.checked.prog=true:=by kernel_rfl
theorem factHeard:Tryz.pinned.checked.prog.stopsHeard=true:=by kernel_rfl
theorem factEnter:Tryz.pinned.checked.prog.mayEnter=true:=by kernel_rfl
end Go.Proofs.YtemhlkdingkjnaaGreatDoor
namespace Go.Proofs.YtemhlkdingkjnaaGreatDoor
open Go Go.Va Go.Proofs
theorem less_trans:∀ x y z:List UInt8,Op.bytesLess x y=true→Op.bytesLess y z=true→Op.bytesLess x z=true
  | _,[],_,h,_=>by cases ‹List UInt8›<;>simp[Op.bytesLess]at h
  | _,_::_,[],_,h=>by simp[Op.bytesLess]at h
  | [],_::_,_::_,_,_=>rfl
  | a :: x,b::y,c::z,h1,h2=>by
    simp only[Op.bytesLess,Bool.or_eq_true,decide_eq_true_eq,Bool.and_eq_true,beq_iff_eq]at h1 h2 ⊢
    rcases h1 with h1 | ⟨rfl,h1⟩
    · rcases h2 with h2 | ⟨rfl,h2⟩
      · exact .inl (UInt8.lt_trans h1 h2)
      · exact .inl h1
    · rcases h2 with h2 | ⟨rfl,h2⟩
      · exact .inl h2
      · exact .inr ⟨rfl,less_trans x y z h1 h2⟩
theorem ltS_trans {a b c:ByteArray}(h:ltS a b=true)(k:ltS b c=true):ltS a c=true:=less_trans _ _ _ h k
theorem less_irr:∀ x:List UInt8,Op.bytesLess x x=false
  | []=>rfl
  | a::x=>by
    simp only[Op.bytesLess,less_irr x,Bool.and_false,Bool.or_false]
    exact decide_eq_false (UInt8.lt_irrefl a)
theorem ltS_irr (a:ByteArray):ltS a a=false:=less_irr _
theorem up_pair {α:Type} {lt:α→α→Bool} (ht:∀ a b c,lt a b=true→lt b c=true→lt a c=true):∀ (l:List α) (o:Option α),chk (λ_=>true) lt o l=true→(∀ x,o=some x→∀ y∈l,lt x y=true)∧l.Pairwise (λa b=>lt a b=true)
  | [],o,_=>⟨λ_ _ y hy=>(nomatch hy),.nil⟩
  | x :: l,o,h=>by
    have h1:chk (λ_=>true) lt (some x) l=true∧(∀ z,o=some z→lt z x=true):=by
      cases o with
      | none=>simp only[chk,Bool.true_and]at h;exact⟨h,λz hz=>nomatch hz⟩
      | some z=>
        simp only[chk,Bool.true_and,Bool.and_eq_true]at h
        exact⟨h.2,λz' hz=>by injection hz with hz;subst hz;exact h.1⟩
    obtain⟨k1,k2⟩:=up_pair ht l (some x) h1.1
    refine⟨λz hz y hy => ?_,.cons (λy hy=>k1 x rfl y hy) k2⟩
    rcases List.mem_cons.1 hy with rfl | hy
    · exact h1.2 z hz
    · exact ht _ _ _ (h1.2 z hz) (k1 x rfl y hy)
theorem sel {α β:Type} (key:α→ByteArray) (F:α→List β):∀ (l:List α),l.Pairwise (λa b=>ltS (key a) (key b)=true)→∀ b∈l,(l.flatMap λx=>if eqS (key x) (key b)=true then F x else [])=F b
  | [],_,b,hb=>nomatch hb
  | x :: l,h,b,hb=>by
    cases h with
    | cons h1 h2=>
      have hne:∀ {p q:ByteArray},ltS p q=true→eqS p q=false∧eqS q p=false:=fun {p q} hpq=>by
        have:∀ {u v:ByteArray},eqS u v=true→u=v:=fun {u v} e=>by
          rw[eqS_eq,ba_beq]at e;exact of_decide_eq_true e
        constructor
        · cases he:eqS p q with
          | false=>rfl
          | true=>rw[this he,ltS_irr]at hpq;exact absurd hpq (by simp)
        · cases he:eqS q p with
          | false=>rfl
          | true=>rw[this he,ltS_irr]at hpq;exact absurd hpq (by simp)
      rw[List.flatMap_cons]
      rcases List.mem_cons.1 hb with rfl | hb
      · rw[eqS_self,if_pos rfl]
        have:(l.flatMap λx=>if eqS (key x) (key b)=true then F x else [])=[]:=by
          rw[List.flatMap_eq_nil_iff]
          intro y hy
          rw[(hne (h1 y hy)).2];rfl
        rw[this,List.append_nil]
      · rw[(hne (h1 b hb)).1]
        exact sel key F l h2 b hb
theorem flatMap_congr' {α β:Type}{f g:α→List β}:∀ {l:List α},(∀ x∈l,f x=g x)→l.flatMap f=l.flatMap g
  | [],_=>rfl
  | x::l,h=>by
    rw[List.flatMap_cons,List.flatMap_cons,h x (by simp),flatMap_congr' λy hy=>h y (by simp[hy])]
theorem sel_all {α β γ:Type}(key:α→ByteArray)(R:α→List γ)(name:γ→ByteArray)(hn:∀ a,∀ r∈R a,name r=key a)(out:γ→List β){l:List α}(h:l.Pairwise (λa b=>ltS (key a) (key b)=true)) :
    (l.flatMap λb=>(l.flatMap R).flatMap λr=>if eqS (name r) (key b)=true then out r else [])=l.flatMap λb=>(R b).flatMap out:=by
  refine flatMap_congr' λb hb => ?_
  rw[← sel key (λx=>(R x).flatMap out) l h b hb,List.flatMap_assoc]
  refine flatMap_congr' λx _ => ?_
  cases hx:eqS (key x) (key b) with
  | true=>
    rw[if_pos rfl]
    exact flatMap_congr' λr hr=>by rw[hn x r hr,hx,if_pos rfl]
  | false=>
    rw[if_neg (by decide),List.flatMap_eq_nil_iff]
    intro r hr
    rw[hn x r hr,hx];rfl
abbrev Says:Type:=D_count_says
theorem digEq:∀ (a b:List Int),a.length=b.length→eqD (.arr 32 (.int .u8)) a b=decide (a=b)
  | [],[],_=>rfl
  | [],_::_,h=>absurd h (by simp)
  | _::_,[],h=>absurd h (by simp)
  | x::a,y::b,h=>by
    have ih:=digEq a b (by simpa using h)
    change (decide (x=y)&&eqD (.arr 32 (.int .u8)) a b)=_
    rw[ih,← Bool.decide_and]
    exact decide_eq_decide.2 (by rw[List.cons.injEq])
end Go.Proofs.YtemhlkdingkjnaaGreatDoor
namespace Go.Proofs.YtemhlkdingkjnaaGreatDoor
open Go Go.Va Go.Proofs
abbrev Mny:Nat:=1073741824
def sayV (v:Ver):Says:=(blob v,(vsize v,(dig v,())))
def sayP (p:D_api_Part):Says:=(p.2.2.1,(p.2.1,(p.2.2.2.1,())))
def vsSay (l:List Ver):List Says:=l.flatMap λv=>if mark v=true then [] else [sayV v]
def upSay (u:D_api_Upload):List Says:=u.2.2.2.1.map sayP
def bkSay (b:D_api_Bucket):List Says:=(b.2.2.2.2.1.flatMap λo=>vsSay o.2.1)++b.2.2.2.2.2.1.flatMap upSay
def allSay (s:D_api_State):List Says:=s.2.2.2.1.flatMap bkSay
theorem vsSay_cons (v:Ver)(l:List Ver):vsSay (v::l)=(if mark v=true then [] else [sayV v])++vsSay l:=by unfold vsSay;rw[List.flatMap_cons]
section
variable {n:Nat}
theorem all_vers (p q:Nat)(B:List D_api_Bucket)(x1 x2:Int)(O:List D_api_Object)(y1 y2:Int)(vs:List Ver)(b:D_api_Bucket)(hl:vs.length<536870912):∀ (m k:Nat) (out:List Says),k≤vs.length→vs.length-k<m→out.length+(vs.drop k).length<Mny →
    F_count_all.J3 n p q m (out,B,x1,x2,O,y1,y2,vs,((vs.length:Nat):Int),(k:Int),b,())=F_count_all.J4 n p q (out++vsSay (vs.drop k),B,x1,x2,O,y1,y2,b,())
  | 0,k,_,_,h,_=>by omega
  | m + 1,k,out,hk,h,ho=>by
    rw[F_count_all.e3]
    simp only[hide_n]
    by_cases hlt:k<vs.length
    · rw[drop_cons (Va.dflt T_api_Version) hlt]at ho ⊢
      rw[List.length_cons]at ho
      have ho:out.length+((vs.drop (k+1)).length+1)<1073741824:=ho
      rw[decide_eq_true (show (k:Int)<((vs.length:Nat):Int) by omega),bIf_true,gIf_pos ⟨by omega,by omega⟩,Int.toNat_natCast,cast_up k (by omega),vsSay_cons]
      generalize vs.getD k (Va.dflt T_api_Version)=v
      rw[gIf_pos (by omega)]
      have i1:=all_vers p q B x1 x2 O y1 y2 vs b hl m (k+1) (out++[sayV v]) (by omega) (by omega) (by rw[List.length_append,List.length_singleton];show _<1073741824;omega)
      have i2:=all_vers p q B x1 x2 O y1 y2 vs b hl m (k+1) out (by omega) (by omega) (by show _<1073741824;omega)
      change bIf (!mark v) (F_count_all.J3 n p q m (out++[sayV v],B,x1,x2,O,y1,y2,vs,((vs.length:Nat):Int),((k+1:Nat):Int),b,())) _=_
      rw[i1,i2]
      cases mark v
      · rw[if_neg (by decide),← List.append_assoc];rfl
      · rw[if_pos rfl,List.nil_append];rfl
    · rw[decide_eq_false (show ¬ (k:Int)<((vs.length:Nat):Int) by omega),bIf_false,List.drop_eq_nil_of_le (by omega)]
      rw[show vsSay []=[] from rfl,List.append_nil]
theorem vsSay_len (l:List Ver):(vsSay l).length≤l.length:=by
  induction l with
  | nil=>exact Nat.le_refl _
  | cons v l ih=>
    rw[vsSay_cons,List.length_append,List.length_cons]
    cases mark v
    · rw[if_neg (by decide),List.length_singleton];omega
    · rw[if_pos rfl,List.length_nil];omega
theorem all_objs (p:Nat)(B:List D_api_Bucket)(x1 x2:Int)(b:D_api_Bucket)(O:List D_api_Object)(hl:O.length<536870912)(hO:∀ o∈O,o.2.1.length<n∧o.2.1.length<536870912):∀ (m k:Nat) (out:List Says),k≤O.length→O.length-k<m→out.length+((O.drop k).flatMap λo=>o.2.1).length<Mny →
    F_count_all.J2 n p m (out,B,x1,x2,O,((O.length:Nat):Int),(k:Int),b,())=F_count_all.J5 n p (out++(O.drop k).flatMap (λo=>vsSay o.2.1),B,x1,x2,b,())
  | 0,k,_,_,h,_=>by omega
  | m + 1,k,out,hk,h,ho=>by
    rw[F_count_all.e2]
    simp only[hide_n]
    by_cases hlt:k<O.length
    · have hx:=hO _ (getD_memA (d:=Va.dflt T_api_Object) hlt)
      rw[drop_cons (Va.dflt T_api_Object) hlt]at ho ⊢
      rw[List.flatMap_cons,List.length_append]at ho
      have ho:out.length+((O.getD k (Va.dflt T_api_Object)).2.1.length+((O.drop (k+1)).flatMap λo=>o.2.1).length)<1073741824:=ho
      rw[decide_eq_true (show (k:Int)<((O.length:Nat):Int) by omega),bIf_true,gIf_pos ⟨by omega,by omega⟩,Int.toNat_natCast,List.flatMap_cons]
      generalize O.getD k (Va.dflt T_api_Object)=o at hx ho
      have h3:=all_vers (n:=n) p m B x1 x2 O ((O.length:Nat):Int) (k:Int) o.2.1 b hx.2 n 0 out (by omega) (by omega) (by rw[List.drop_zero];show _<1073741824;omega)
      rw[show ((0:Nat):Int)=0 from rfl,List.drop_zero]at h3
      have hv:=vsSay_len o.2.1
      rw[h3,F_count_all.e4,cast_up k (by omega),all_objs p B x1 x2 b O hl hO m (k+1) _ (by omega) (by omega) (by rw[List.length_append];show _<1073741824;omega),List.append_assoc]
    · rw[decide_eq_false (show ¬ (k:Int)<((O.length:Nat):Int) by omega),bIf_false,List.drop_eq_nil_of_le (by omega),List.flatMap_nil,List.append_nil]
theorem all_parts (p q:Nat)(B:List D_api_Bucket)(x1 x2:Int)(U:List D_api_Upload)(y1 y2:Int)(ps:List D_api_Part)(hl:ps.length<536870912):∀ (m k:Nat) (out:List Says),k≤ps.length→ps.length-k<m→out.length+(ps.drop k).length<Mny →
    F_count_all.J7 n p q m (out,B,x1,x2,U,y1,y2,ps,((ps.length:Nat):Int),(k:Int),())=F_count_all.J8 n p q (out++(ps.drop k).map sayP,B,x1,x2,U,y1,y2,())
  | 0,k,_,_,h,_=>by omega
  | m + 1,k,out,hk,h,ho=>by
    rw[F_count_all.e7]
    simp only[hide_n]
    by_cases hlt:k<ps.length
    · rw[drop_cons (Va.dflt T_api_Part) hlt]at ho ⊢
      rw[List.length_cons]at ho
      have ho:out.length+((ps.drop (k+1)).length+1)<1073741824:=ho
      rw[decide_eq_true (show (k:Int)<((ps.length:Nat):Int) by omega),bIf_true,gIf_pos ⟨by omega,by omega⟩,Int.toNat_natCast,cast_up k (by omega),List.map_cons]
      generalize ps.getD k (Va.dflt T_api_Part)=v
      rw[gIf_pos (by omega)]
      have i1:=all_parts p q B x1 x2 U y1 y2 ps hl m (k+1) (out++[sayP v]) (by omega) (by omega) (by rw[List.length_append,List.length_singleton];show _<1073741824;omega)
      rw[List.append_assoc,List.singleton_append]at i1
      exact i1
    · rw[decide_eq_false (show ¬ (k:Int)<((ps.length:Nat):Int) by omega),bIf_false,List.drop_eq_nil_of_le (by omega),List.map_nil,List.append_nil]
theorem all_ups (p:Nat)(B:List D_api_Bucket)(x1 x2:Int)(U:List D_api_Upload)(hl:U.length<536870912)(hU:∀ u∈U,u.2.2.2.1.length<n∧u.2.2.2.1.length<536870912):∀ (m k:Nat) (out:List Says),k≤U.length→U.length-k<m→out.length+((U.drop k).flatMap λu=>u.2.2.2.1).length<Mny →
    F_count_all.J6 n p m (out,B,x1,x2,U,((U.length:Nat):Int),(k:Int),())=F_count_all.J9 n p (out++(U.drop k).flatMap upSay,B,x1,x2,())
  | 0,k,_,_,h,_=>by omega
  | m + 1,k,out,hk,h,ho=>by
    rw[F_count_all.e6]
    simp only[hide_n]
    by_cases hlt:k<U.length
    · have hx:=hU _ (getD_memA (d:=Va.dflt T_api_Upload) hlt)
      rw[drop_cons (Va.dflt T_api_Upload) hlt]at ho ⊢
      rw[List.flatMap_cons,List.length_append]at ho
      have ho:out.length+((U.getD k (Va.dflt T_api_Upload)).2.2.2.1.length+((U.drop (k+1)).flatMap λu=>u.2.2.2.1).length)<1073741824:=ho
      rw[decide_eq_true (show (k:Int)<((U.length:Nat):Int) by omega),bIf_true,gIf_pos ⟨by omega,by omega⟩,Int.toNat_natCast,List.flatMap_cons]
      generalize U.getD k (Va.dflt T_api_Upload)=u at hx ho
      have h3:=all_parts (n:=n) p m B x1 x2 U ((U.length:Nat):Int) (k:Int) u.2.2.2.1 hx.2 n 0 out (by omega) (by omega) (by rw[List.drop_zero];show _<1073741824;omega)
      rw[show ((0:Nat):Int)=0 from rfl,List.drop_zero]at h3
      have hv:(upSay u).length=u.2.2.2.1.length:=by unfold upSay;rw[List.length_map]
      have h3:F_count_all.J7 n p m n (out,B,x1,x2,U,((U.length:Nat):Int),(k:Int),u.2.2.2.1,((u.2.2.2.1.length:Nat):Int),0,())=F_count_all.J8 n p m (out++upSay u,B,x1,x2,U,((U.length:Nat):Int),(k:Int),()):=h3
      rw[h3,F_count_all.e8,cast_up k (by omega),all_ups p B x1 x2 U hl hU m (k+1) _ (by omega) (by omega) (by rw[List.length_append];show _<1073741824;omega),List.append_assoc]
    · rw[decide_eq_false (show ¬ (k:Int)<((U.length:Nat):Int) by omega),bIf_false,List.drop_eq_nil_of_le (by omega),List.flatMap_nil,List.append_nil]
def rawB (b:D_api_Bucket):Nat:=(b.2.2.2.2.1.flatMap λo=>o.2.1).length+(b.2.2.2.2.2.1.flatMap λu=>u.2.2.2.1).length
def rawS (l:List D_api_Bucket):Nat:=(l.map rawB).sum
theorem rawS_cons (b:D_api_Bucket)(l:List D_api_Bucket):rawS (b::l)=rawB b+rawS l:=by unfold rawS;rw[List.map_cons,List.sum_cons]
theorem objSay_len (l:List D_api_Object):(l.flatMap λo=>vsSay o.2.1).length≤(l.flatMap λo=>o.2.1).length:=by
  induction l with
  | nil=>exact Nat.le_refl _
  | cons o l ih=>
    rw[List.flatMap_cons,List.flatMap_cons,List.length_append,List.length_append]
    have:=vsSay_len o.2.1
    omega
theorem upSay_len (l:List D_api_Upload):(l.flatMap upSay).length=(l.flatMap λu=>u.2.2.2.1).length:=by
  induction l with
  | nil=>rfl
  | cons u l ih=>
    rw[List.flatMap_cons,List.flatMap_cons,List.length_append,List.length_append,ih]
    unfold upSay;rw[List.length_map]
theorem bkSay_len (b:D_api_Bucket):(bkSay b).length≤rawB b:=by
  unfold bkSay rawB
  rw[List.length_append,upSay_len]
  have:=objSay_len b.2.2.2.2.1
  omega
structure Fit (n:Nat)(b:D_api_Bucket):Prop where
  ol:b.2.2.2.2.1.length<n∧b.2.2.2.2.1.length<536870912
  ob:∀ o∈b.2.2.2.2.1,o.2.1.length<n∧o.2.1.length<536870912
  ul:b.2.2.2.2.2.1.length<n∧b.2.2.2.2.2.1.length<536870912
  up:∀ u∈b.2.2.2.2.2.1,u.2.2.2.1.length<n∧u.2.2.2.1.length<536870912
theorem fit_of (hn:n≤536870912){b:D_api_Bucket}(h:BkS n b):Fit n b:=by
  have h1:=h.ol
  have h2:=h.ul
  exact⟨⟨by omega,by omega⟩,λo ho=>by have:=(h.ob o ho).list.len;exact⟨by omega,by omega⟩,⟨by omega,by omega⟩,λu hu=>by have:=(h.up u hu).ps;exact⟨by omega,by omega⟩⟩
theorem all_bks (B:List D_api_Bucket)(hl:B.length<536870912)(hB:∀ b∈B,Fit n b):∀ (m k:Nat) (out:List Says),k≤B.length→B.length-k<m→out.length+rawS (B.drop k)<Mny →
    F_count_all.J1 n m (out,B,((B.length:Nat):Int),(k:Int),())=some (out++(B.drop k).flatMap bkSay,())
  | 0,k,_,_,h,_=>by omega
  | m + 1,k,out,hk,h,ho=>by
    rw[F_count_all.e1]
    simp only[hide_n]
    by_cases hlt:k<B.length
    · have hx:=hB _ (getD_memA (d:=Va.dflt T_api_Bucket) hlt)
      rw[drop_cons (Va.dflt T_api_Bucket) hlt]at ho ⊢
      rw[rawS_cons]at ho
      have ho:out.length+(rawB (B.getD k (Va.dflt T_api_Bucket))+rawS (B.drop (k+1)))<1073741824:=ho
      rw[decide_eq_true (show (k:Int)<((B.length:Nat):Int) by omega),bIf_true,gIf_pos ⟨by omega,by omega⟩,Int.toNat_natCast,List.flatMap_cons]
      generalize B.getD k (Va.dflt T_api_Bucket)=b at hx ho
      have hb:=bkSay_len b
      have hrb:rawB b=(b.2.2.2.2.1.flatMap λo=>o.2.1).length+(b.2.2.2.2.2.1.flatMap λu=>u.2.2.2.1).length:=rfl
      have hol:=objSay_len b.2.2.2.2.1
      have h2:=all_objs (n:=n) m B ((B.length:Nat):Int) (k:Int) b b.2.2.2.2.1 hx.ol.2 hx.ob n 0 out (by omega) (by have:=hx.ol.1;omega) (by rw[List.drop_zero];show _<1073741824;omega)
      have h6:=all_ups (n:=n) m B ((B.length:Nat):Int) (k:Int) b.2.2.2.2.2.1 hx.ul.2 hx.up n 0 (out++b.2.2.2.2.1.flatMap λo=>vsSay o.2.1) (by omega) (by have:=hx.ul.1;omega) (by rw[List.drop_zero,List.length_append];show _<1073741824;omega)
      rw[show ((0:Nat):Int)=0 from rfl,List.drop_zero]at h2 h6
      have e:out++(b.2.2.2.2.1.flatMap λo=>vsSay o.2.1)++b.2.2.2.2.2.1.flatMap upSay=out++bkSay b:=by unfold bkSay;rw[List.append_assoc]
      rw[h2,F_count_all.e5,h6,F_count_all.e9,e,cast_up k (by omega),all_bks B hl hB m (k+1) _ (by omega) (by omega) (by rw[List.length_append];show _<1073741824;omega),List.append_assoc]
    · rw[decide_eq_false (show ¬ (k:Int)<((B.length:Nat):Int) by omega),bIf_false,F_count_all.e10,List.drop_eq_nil_of_le (by omega),List.flatMap_nil,List.append_nil]
structure CoS (n:Nat)(s:D_api_State):Prop extends StS n s where
  raw:rawS s.2.2.2.1<n
  pd:∀ b∈s.2.2.2.1,∀ u∈b.2.2.2.2.2.1,∀ p∈u.2.2.2.1,p.2.2.2.1.length=32
def saysOf (s:D_api_State):List Says:=if stateB s=true then allSay s else []
theorem count_all (h3:300≤n)(hn:n≤536870912){s:D_api_State}(hs:CoS n s):F_count_all.f n s=some (saysOf s,()):=by
  have hl:=hs.len
  have hr:=hs.raw
  have h1:=all_bks (n:=n) s.2.2.2.1 (by omega) (λb hb=>fit_of hn (hs.bk b hb)) n 0 [] (by omega) (by omega) (by rw[List.drop_zero];change 0+rawS _<1073741824;omega)
  rw[show ((0:Nat):Int)=0 from rfl,List.drop_zero,List.nil_append]at h1
  rw[F_count_all.e0,meta_Sound h3 hn hs.toStS,bnd_some,h1]
  unfold saysOf
  cases stateB s<;>rfl
theorem allSay_len (l:List D_api_Bucket):(l.flatMap bkSay).length≤rawS l:=by
  induction l with
  | nil=>exact Nat.le_refl _
  | cons b l ih=>
    rw[List.flatMap_cons,List.length_append,rawS_cons]
    have:=bkSay_len b
    omega
theorem says_len {s:D_api_State}(hs:CoS n s):(saysOf s).length<n:=by
  have h1:=hs.raw
  have h2:=allSay_len s.2.2.2.1
  unfold saysOf
  split
  · exact Nat.lt_of_le_of_lt h2 h1
  · show 0<n;omega
abbrev Row:Type:=D_ref15_Row
def noUp:D_api_Upload:=(0,(⟨#[]⟩,([],([],()))))
def noVer:D_api_Version:=(0,(false,(0,(0,(List.replicate 32 0,(0,((0,(0,(false,()))),([],()))))))))
def rowV (b:D_api_Bucket)(o:D_api_Object)(v:Ver):Row:=(b.1,(o.1,(v,(noUp,()))))
def rowU (b:D_api_Bucket)(u:D_api_Upload):Row:=(b.1,(⟨#[]⟩,(noVer,(u,()))))
def rowsV (b:D_api_Bucket):List Row:=b.2.2.2.2.1.flatMap λo=>o.2.1.map (rowV b o)
def rowsU (b:D_api_Bucket):List Row:=b.2.2.2.2.2.1.map (rowU b)
def bare (b:D_api_Bucket):D_api_Bucket:=(b.1,(b.2.1,(b.2.2.1,(b.2.2.2.1,([],([],()))))))
abbrev Flat:Type:=D_ref15_Flat
def addV (f:Flat)(l:List Row):Flat:=(f.1,(f.2.1,(f.2.2.1,(f.2.2.2.1,(f.2.2.2.2.1++l,(f.2.2.2.2.2.1,()))))))
def addU (f:Flat)(l:List Row):Flat:=(f.1,(f.2.1,(f.2.2.1,(f.2.2.2.1,(f.2.2.2.2.1,(f.2.2.2.2.2.1++l,()))))))
def addB (f:Flat)(l:List D_api_Bucket):Flat:=(f.1,(f.2.1,(f.2.2.1,(f.2.2.2.1++l,(f.2.2.2.2.1,(f.2.2.2.2.2.1,()))))))
theorem addV_nil (f:Flat):addV f []=f:=by unfold addV;rw[List.append_nil]
theorem addU_nil (f:Flat):addU f []=f:=by unfold addU;rw[List.append_nil]
theorem addV_app (f:Flat)(a b:List Row):addV (addV f a) b=addV f (a++b):=by unfold addV;rw[List.append_assoc]
theorem addU_app (f:Flat)(a b:List Row):addU (addU f a) b=addU f (a++b):=by unfold addU;rw[List.append_assoc]
theorem from_vers (p q:Nat)(i:Int)(s:D_api_State)(b2:Flat)(b:D_api_Bucket)(kk:Nat)(hk0:kk<b.2.2.2.2.1.length)(o:D_api_Object)(hoo:b.2.2.2.2.1.getD kk (Va.dflt T_api_Object)=o)(hl:o.2.1.length<536870912):∀ (m k:Nat) (f:Flat),k≤o.2.1.length→o.2.1.length-k<m→f.2.2.2.2.1.length+(o.2.1.drop k).length<Mny →
    F_ref15_From.J3 n p q m (i,(kk:Int),(k:Int),s,b2,f,b,())=F_ref15_From.J4 n p q (i,(kk:Int),s,b2,addV f ((o.2.1.drop k).map (rowV b o)),b,())
  | 0,k,_,_,h,_=>by omega
  | m + 1,k,f,hk,h,ho=>by
    have ih:=λf=>from_vers p q i s b2 b kk hk0 o hoo hl m (k+1) f
    have eta:∀ f:Flat,(f.1,(f.2.1,(f.2.2.1,(f.2.2.2.1,(f.2.2.2.2.1,(f.2.2.2.2.2.1,f.2.2.2.2.2.2))))))=f:=λ_=>rfl
    have hgk:(0≤(kk:Int)∧(kk:Int)<((b.2.2.2.2.1.length:Nat):Int)):=⟨by omega,by omega⟩
    rw[F_ref15_From.e3,gIf_pos hgk]
    simp only[hide_n,Int.toNat_natCast,eta,hoo]
    by_cases hlt:k<o.2.1.length
    · rw[drop_cons (Va.dflt T_api_Version) hlt]at ho ⊢
      rw[List.length_cons]at ho
      have ho:f.2.2.2.2.1.length+((o.2.1.drop (k+1)).length+1)<1073741824:=ho
      rw[decide_eq_true (show (k:Int)<((o.2.1.length:Nat):Int) by omega),bIf_true,gIf_pos hgk,gIf_pos hgk,gIf_pos ⟨by omega,by omega⟩,gIf_pos (by omega),cast_up k (by omega),List.map_cons]
      have:=ih (addV f [rowV b o (o.2.1.getD k (Va.dflt T_api_Version))]) (by omega) (by omega) (by change (f.2.2.2.2.1++_).length+_<1073741824;rw[List.length_append,List.length_singleton];omega)
      rw[addV_app,List.singleton_append]at this
      exact this
    · rw[decide_eq_false (show ¬ (k:Int)<((o.2.1.length:Nat):Int) by omega),bIf_false,List.drop_eq_nil_of_le (by omega),List.map_nil,addV_nil]
theorem from_objs (p:Nat)(i:Int)(s:D_api_State)(b2:Flat)(b:D_api_Bucket)(hb:Fit n b):∀ (m k:Nat) (f:Flat),k≤b.2.2.2.2.1.length→b.2.2.2.2.1.length-k<m→f.2.2.2.2.1.length+((b.2.2.2.2.1.drop k).flatMap λo=>o.2.1).length<Mny →
    F_ref15_From.J2 n p m (i,(k:Int),s,b2,f,b,())=F_ref15_From.J5 n p (i,s,b2,addV f ((b.2.2.2.2.1.drop k).flatMap λo=>o.2.1.map (rowV b o)),b,())
  | 0,k,_,_,h,_=>by omega
  | m + 1,k,f,hk,h,ho=>by
    have hol:=hb.ol.2
    rw[F_ref15_From.e2]
    simp only[hide_n]
    by_cases hlt:k<b.2.2.2.2.1.length
    · have hx:=hb.ob _ (getD_memA (d:=Va.dflt T_api_Object) hlt)
      rw[drop_cons (Va.dflt T_api_Object) hlt]at ho ⊢
      rw[List.flatMap_cons,List.length_append]at ho
      have ho:f.2.2.2.2.1.length+((b.2.2.2.2.1.getD k (Va.dflt T_api_Object)).2.1.length+((b.2.2.2.2.1.drop (k+1)).flatMap λo=>o.2.1).length)<1073741824:=ho
      have h3:=from_vers (n:=n) p m i s b2 b k hlt _ rfl hx.2 n 0 f (by omega) (by omega) (by rw[List.drop_zero];show _<1073741824;omega)
      rw[show ((0:Nat):Int)=0 from rfl,List.drop_zero]at h3
      rw[decide_eq_true (show (k:Int)<((b.2.2.2.2.1.length:Nat):Int) by omega),bIf_true,List.flatMap_cons]
      change F_ref15_From.J3 n p m n (i,(k:Int),0,s,b2,f,b,())=_
      rw[h3,F_ref15_From.e4,cast_up k (by omega)]
      have:=from_objs p i s b2 b hb m (k+1) (addV f ((b.2.2.2.2.1.getD k (Va.dflt T_api_Object)).2.1.map (rowV b (b.2.2.2.2.1.getD k (Va.dflt T_api_Object))))) (by omega) (by omega) (by change (f.2.2.2.2.1++_).length+_<1073741824;rw[List.length_append,List.length_map];omega)
      rw[addV_app]at this
      exact this
    · rw[decide_eq_false (show ¬ (k:Int)<((b.2.2.2.2.1.length:Nat):Int) by omega),bIf_false,List.drop_eq_nil_of_le (by omega),List.flatMap_nil,addV_nil]
theorem from_ups (p:Nat)(i:Int)(s:D_api_State)(b2:Flat)(b:D_api_Bucket)(hb:Fit n b):∀ (m k:Nat) (f:Flat),k≤b.2.2.2.2.2.1.length→b.2.2.2.2.2.1.length-k<m→f.2.2.2.2.2.1.length+(b.2.2.2.2.2.1.drop k).length<Mny →
    F_ref15_From.J6 n p m (i,(k:Int),s,b2,f,b,())=F_ref15_From.J7 n p (i,s,b2,addU f ((b.2.2.2.2.2.1.drop k).map (rowU b)),())
  | 0,k,_,_,h,_=>by omega
  | m + 1,k,f,hk,h,ho=>by
    have hul:=hb.ul.2
    rw[F_ref15_From.e6]
    simp only[hide_n]
    by_cases hlt:k<b.2.2.2.2.2.1.length
    · have hx:=hb.up _ (getD_memA (d:=Va.dflt T_api_Upload) hlt)
      rw[drop_cons (Va.dflt T_api_Upload) hlt]at ho ⊢
      rw[List.length_cons]at ho
      have ho:f.2.2.2.2.2.1.length+((b.2.2.2.2.2.1.drop (k+1)).length+1)<1073741824:=ho
      rw[decide_eq_true (show (k:Int)<((b.2.2.2.2.2.1.length:Nat):Int) by omega),bIf_true,gIf_pos ⟨by omega,by omega⟩,Int.toNat_natCast,List.map_cons,cast_up k (by omega)]
      generalize b.2.2.2.2.2.1.getD k (Va.dflt T_api_Upload)=u at hx
      have hx2:=hx.2
      rw[gIf_pos (by rw[List.length_nil];omega),gIf_pos (by omega),List.nil_append]
      have:=from_ups p i s b2 b hb m (k+1) (addU f [rowU b u]) (by omega) (by omega) (by change (f.2.2.2.2.2.1++_).length+_<1073741824;rw[List.length_append,List.length_singleton];omega)
      rw[addU_app,List.singleton_append]at this
      exact this
    · rw[decide_eq_false (show ¬ (k:Int)<((b.2.2.2.2.2.1.length:Nat):Int) by omega),bIf_false,List.drop_eq_nil_of_le (by omega),List.map_nil,addU_nil]
theorem rowsV_len (b:D_api_Bucket):(rowsV b).length=(b.2.2.2.2.1.flatMap λo=>o.2.1).length:=by
  unfold rowsV
  generalize b.2.2.2.2.1=l
  induction l with
  | nil=>rfl
  | cons o l ih=>rw[List.flatMap_cons,List.flatMap_cons,List.length_append,List.length_append,ih,List.length_map]
def addA (f:Flat)(b:D_api_Bucket):Flat:=addU (addV (addB f [bare b]) (rowsV b)) (rowsU b)
def cntB (b:D_api_Bucket):Nat:=(b.2.2.2.2.1.flatMap λo=>o.2.1).length+b.2.2.2.2.2.1.length+1
def cntS (l:List D_api_Bucket):Nat:=(l.map cntB).sum
theorem from_bks (s:D_api_State) (b2:Flat) (hl:s.2.2.2.1.length<536870912) (hB:∀ b∈s.2.2.2.1,Fit n b):∀ (m k:Nat) (f:Flat),k≤s.2.2.2.1.length→s.2.2.2.1.length-k<m→f.2.2.2.1.length+f.2.2.2.2.1.length+f.2.2.2.2.2.1.length+cntS (s.2.2.2.1.drop k)<Mny →
    F_ref15_From.J1 n m ((k:Int),s,b2,f,())=some ((s.2.2.2.1.drop k).foldl addA f,())
  | 0,k,_,_,h,_=>by omega
  | m + 1,k,f,hk,h,ho=>by
    rw[F_ref15_From.e1]
    simp only[hide_n]
    by_cases hlt:k<s.2.2.2.1.length
    · have hx:=hB _ (getD_memA (d:=Va.dflt T_api_Bucket) hlt)
      rw[drop_cons (Va.dflt T_api_Bucket) hlt]at ho ⊢
      unfold cntS at ho
      rw[List.map_cons,List.sum_cons]at ho
      have ho:f.2.2.2.1.length+f.2.2.2.2.1.length+f.2.2.2.2.2.1.length+(cntB (s.2.2.2.1.getD k (Va.dflt T_api_Bucket))+cntS (s.2.2.2.1.drop (k+1)))<1073741824:=ho
      rw[decide_eq_true (show (k:Int)<((s.2.2.2.1.length:Nat):Int) by omega),bIf_true,gIf_pos ⟨by omega,by omega⟩,Int.toNat_natCast,List.foldl_cons]
      generalize s.2.2.2.1.getD k (Va.dflt T_api_Bucket)=b at hx ho
      have hcb:cntB b=(b.2.2.2.2.1.flatMap λo=>o.2.1).length+b.2.2.2.2.2.1.length+1:=rfl
      rw[gIf_pos (by omega)]
      change F_ref15_From.J2 n m n ((k:Int),((0:Nat):Int),s,b2,addB f [bare b],b,())=_
      have hv:=rowsV_len b
      rw[from_objs (n:=n) m (k:Int) s b2 b hx n 0 _ (by omega) (by have:=hx.ol.1;omega) (by rw[List.drop_zero];change f.2.2.2.2.1.length+_<1073741824;omega),List.drop_zero,F_ref15_From.e5]
      change F_ref15_From.J6 n m n ((k:Int),((0:Nat):Int),s,b2,addV (addB f [bare b]) (rowsV b),b,())=_
      rw[from_ups (n:=n) m (k:Int) s b2 b hx n 0 _ (by omega) (by have:=hx.ul.1;omega) (by rw[List.drop_zero];change f.2.2.2.2.2.1.length+_<1073741824;omega),List.drop_zero,F_ref15_From.e7,cast_up k (by omega)]
      exact from_bks s b2 hl hB m (k+1) (addA f b) (by omega) (by omega) (by
        change (f.2.2.2.1++[bare b]).length+(f.2.2.2.2.1++rowsV b).length+(f.2.2.2.2.2.1++rowsU b).length+_<1073741824
        unfold rowsU
        rw[List.length_append,List.length_append,List.length_append,List.length_singleton,List.length_map,hv]
        omega)
    · rw[decide_eq_false (show ¬ (k:Int)<((s.2.2.2.1.length:Nat):Int) by omega),bIf_false,F_ref15_From.e8,List.drop_eq_nil_of_le (by omega)];rfl
def flatS (s:D_api_State):Flat:=(s.1,(s.2.1,(s.2.2.1,(s.2.2.2.1.map bare,(s.2.2.2.1.flatMap rowsV,(s.2.2.2.1.flatMap rowsU,()))))))
theorem fold_addA:∀ (l:List D_api_Bucket) (f:Flat),l.foldl addA f=(f.1,(f.2.1,(f.2.2.1,(f.2.2.2.1++l.map bare,(f.2.2.2.2.1++l.flatMap rowsV,(f.2.2.2.2.2.1++l.flatMap rowsU,()))))))
  | [],f=>by simp
  | b::l,f=>by
    rw[List.foldl_cons,fold_addA l]
    unfold addA addU addV addB
    simp only[List.map_cons,List.flatMap_cons,List.append_assoc,List.singleton_append]
theorem cnt_le (l:List D_api_Bucket):cntS l=(l.flatMap idsB).length+l.length:=by
  have hi:∀ b,(idsB b).length+1=cntB b:=λb=>by
    unfold idsB cntB
    rw[List.length_append,ups_len]
    have:(b.2.2.2.2.1.flatMap idsO).length=(b.2.2.2.2.1.flatMap λo=>o.2.1).length:=by
      generalize b.2.2.2.2.1=l
      induction l with
      | nil=>rfl
      | cons o l ih=>
        rw[List.flatMap_cons,List.flatMap_cons,List.length_append,List.length_append,ih]
        unfold idsO;rw[List.length_map]
    omega
  unfold cntS
  induction l with
  | nil=>rfl
  | cons b l ih=>
    rw[List.map_cons,List.sum_cons,ih,List.flatMap_cons,List.length_append,List.length_cons,← hi b]
    omega
theorem ref15_From (hn:n≤536870912){s:D_api_State}(hs:StS n s):F_ref15_From.f n s=some (flatS s,()):=by
  have hl:=hs.len
  have hf:=hs.few
  rw[F_ref15_From.e0]
  change F_ref15_From.J1 n n (((0:Nat):Int),s,_,(s.1,(s.2.1,(s.2.2.1,([],([],([],())))))),())=_
  rw[from_bks (n:=n) s _ (by omega) (λb hb=>fit_of hn (hs.bk b hb)) n 0 _ (by omega) (by omega) (by
    rw[List.drop_zero,cnt_le]
    show 0+0+0+_<1073741824
    omega),List.drop_zero,fold_addA]
  rfl
end
end Go.Proofs.YtemhlkdingkjnaaGreatDoor
namespace Go.Proofs.YtemhlkdingkjnaaGreatDoor
open Go Go.Va Go.Proofs
abbrev Use:Type:=D_count_Use
def toUse (x:Says):Use:=(x.1,(1,(x.2.1,(x.2.2.1,()))))
def selV (nm:ByteArray)(r:Row):List Use:=if (eqS r.1 nm&&!mark r.2.2.1)=true then [toUse (sayV r.2.2.1)] else []
def selU (nm:ByteArray)(r:Row):List Use:=if eqS r.1 nm=true then (upSay r.2.2.2.1).map toUse else []
section
variable {n:Nat}
theorem useV_J (p:Nat) (bi:Nat) (f:Flat) (hb:bi<f.2.2.2.1.length) (hl:f.2.2.2.2.1.length<536870912) (hl2:f.2.2.2.1.length<536870912):∀ (m k:Nat) (out:List Use),k≤f.2.2.2.2.1.length→f.2.2.2.2.1.length-k<m→out.length+(f.2.2.2.2.1.drop k).length<Mny →
    F_ref16_All.J2 n p m (out,(bi:Int),(k:Int),f,())=F_ref16_All.J5 n p (out++(f.2.2.2.2.1.drop k).flatMap (selV (f.2.2.2.1.getD bi (Va.dflt T_api_Bucket)).1),(bi:Int),f,())
  | 0,k,_,_,h,_=>by omega
  | m + 1,k,out,hk,h,ho=>by
    rw[F_ref16_All.e2]
    simp only[hide_n]
    by_cases hlt:k<f.2.2.2.2.1.length
    · rw[drop_cons (Va.dflt T_ref15_Row) hlt]at ho ⊢
      rw[List.length_cons]at ho
      have ho:out.length+((f.2.2.2.2.1.drop (k+1)).length+1)<1073741824:=ho
      have hg:(0≤(k:Int)∧(k:Int)<((f.2.2.2.2.1.length:Nat):Int)):=⟨by omega,by omega⟩
      rw[decide_eq_true (show (k:Int)<((f.2.2.2.2.1.length:Nat):Int) by omega),bIf_true,gIf_pos hg,gIf_pos hg,gIf_pos ⟨by omega,by omega⟩,Int.toNat_natCast,Int.toNat_natCast,Nat.zero_add,Nat.zero_add,List.flatMap_cons]
      generalize f.2.2.2.2.1.getD k (Va.dflt T_ref15_Row)=r
      have i1:=useV_J p bi f hb hl hl2 m (k+1) (out++[toUse (sayV r.2.2.1)]) (by omega) (by omega) (by rw[List.length_append,List.length_singleton];show _<1073741824;omega)
      have i2:=useV_J p bi f hb hl hl2 m (k+1) out (by omega) (by omega) (by show _<1073741824;omega)
      generalize (f.2.2.2.1.getD bi (Va.dflt T_api_Bucket)).1=nm at i1 i2 ⊢
      have e3:∀ t,F_ref16_All.J3 n p m (out,(bi:Int),(k:Int),t,f,r.2.2.1,())=bIf t (F_ref16_All.J5 n p (out++([toUse (sayV r.2.2.1)]++(f.2.2.2.2.1.drop (k+1)).flatMap (selV nm)),(bi:Int),f,())) (F_ref16_All.J5 n p (out++(f.2.2.2.2.1.drop (k+1)).flatMap (selV nm),(bi:Int),f,())):=λt=>by
        rw[F_ref16_All.e3,gIf_pos (by omega)]
        rw[List.append_assoc]at i1
        rw[← i1,← i2,← cast_up k (by omega)]
        change bIf t (F_ref16_All.J4 n p m (out++[toUse (sayV r.2.2.1)],(bi:Int),(k:Int),f,())) (F_ref16_All.J4 n p m (out,(bi:Int),(k:Int),f,()))=_
        rw[F_ref16_All.e4,F_ref16_All.e4]
      change bIf (eqS r.1 nm) (F_ref16_All.J3 n p m (out,(bi:Int),(k:Int),!mark r.2.2.1,f,r.2.2.1,())) (F_ref16_All.J3 n p m (out,(bi:Int),(k:Int),false,f,r.2.2.1,()))=_
      rw[e3,e3]
      unfold selV
      cases eqS r.1 nm<;>cases mark r.2.2.1<;>rfl
    · rw[decide_eq_false (show ¬ (k:Int)<((f.2.2.2.2.1.length:Nat):Int) by omega),bIf_false,List.drop_eq_nil_of_le (by omega),List.flatMap_nil,List.append_nil]
theorem useP_J (p q:Nat)(bi ri:Nat)(f:Flat)(hb:bi<f.2.2.2.1.length)(hr:ri<f.2.2.2.2.2.1.length)(hl:f.2.2.2.2.2.1.length<536870912)(hl2:f.2.2.2.1.length<536870912)(he:eqS (f.2.2.2.2.2.1.getD ri (Va.dflt T_ref15_Row)).1 (f.2.2.2.1.getD bi (Va.dflt T_api_Bucket)).1=true)
    (hp:(f.2.2.2.2.2.1.getD ri (Va.dflt T_ref15_Row)).2.2.2.1.2.2.2.1.length<536870912):∀ (m k:Nat) (out:List Use),k≤(f.2.2.2.2.2.1.getD ri (Va.dflt T_ref15_Row)).2.2.2.1.2.2.2.1.length→(f.2.2.2.2.2.1.getD ri (Va.dflt T_ref15_Row)).2.2.2.1.2.2.2.1.length-k<m→out.length+((f.2.2.2.2.2.1.getD ri (Va.dflt T_ref15_Row)).2.2.2.1.2.2.2.1.drop k).length<Mny →
    F_ref16_All.J7 n p q m (out,(bi:Int),(ri:Int),(k:Int),f,())=F_ref16_All.J9 n p q (out++(((f.2.2.2.2.2.1.getD ri (Va.dflt T_ref15_Row)).2.2.2.1.2.2.2.1.drop k).map sayP).map toUse,(bi:Int),(ri:Int),f,())
  | 0,k,_,_,h,_=>by omega
  | m + 1,k,out,hk,h,ho=>by
    have hgr:(0≤(ri:Int)∧(ri:Int)<((f.2.2.2.2.2.1.length:Nat):Int)):=⟨by omega,by omega⟩
    have hgb:(0≤(bi:Int)∧(bi:Int)<((f.2.2.2.1.length:Nat):Int)):=⟨by omega,by omega⟩
    have e8:∀ (m:Nat) (out:List Use),F_ref16_All.J8 n p q m (out,(bi:Int),(ri:Int),(k:Int),f,())=gIf (0≤(k:Int)∧(k:Int)<(((f.2.2.2.2.2.1.getD ri (Va.dflt T_ref15_Row)).2.2.2.1.2.2.2.1.length:Nat):Int)) (gIf ((out.length+1)*56≤70368744177664) (F_ref16_All.J7 n p q m (out++[toUse (sayP ((f.2.2.2.2.2.1.getD ri (Va.dflt T_ref15_Row)).2.2.2.1.2.2.2.1.getD k (Va.dflt T_api_Part)))],(bi:Int),(ri:Int),IntKind.i64.wrap ((k:Int)+1),f,()))):=λm out=>by
      rw[F_ref16_All.e8,gIf_pos hgr]
      simp only[Int.toNat_natCast,Nat.zero_add]
      rfl
    rw[F_ref16_All.e7,gIf_pos hgr,gIf_pos hgb,gIf_pos hgr]
    simp only[hide_n,Int.toNat_natCast,Nat.zero_add]
    rw[he,bIf_true]
    have ih:=λout=>useP_J p q bi ri f hb hr hl hl2 he hp m (k+1) out
    change bIf _ (F_ref16_All.J8 n p q m (out,(bi:Int),(ri:Int),(k:Int),f,())) (F_ref16_All.J9 n p q (out,(bi:Int),(ri:Int),f,()))=_
    rw[e8]
    generalize (f.2.2.2.2.2.1.getD ri (Va.dflt T_ref15_Row)).2.2.2.1.2.2.2.1=ps at hk h ho hp ih ⊢
    by_cases hlt:k<ps.length
    · rw[drop_cons (Va.dflt T_api_Part) hlt]at ho ⊢
      rw[List.length_cons]at ho
      have ho:out.length+((ps.drop (k+1)).length+1)<1073741824:=ho
      rw[decide_eq_true (show (k:Int)<((ps.length:Nat):Int) by omega),bIf_true,gIf_pos ⟨by omega,by omega⟩,gIf_pos (by omega),cast_up k (by omega),ih _ (by omega) (by omega) (by rw[List.length_append,List.length_singleton];show _<1073741824;omega),List.append_assoc]
      rfl
    · rw[decide_eq_false (show ¬ (k:Int)<((ps.length:Nat):Int) by omega),bIf_false,List.drop_eq_nil_of_le (by omega),List.map_nil,List.map_nil,List.append_nil]
theorem useU_J (p:Nat) (bi:Nat) (f:Flat) (hn:n≠0) (hb:bi<f.2.2.2.1.length) (hl:f.2.2.2.2.2.1.length<536870912) (hl2:f.2.2.2.1.length<536870912) (hU:∀ r∈f.2.2.2.2.2.1,r.2.2.2.1.2.2.2.1.length<n∧r.2.2.2.1.2.2.2.1.length<536870912):∀ (m k:Nat) (out:List Use),k≤f.2.2.2.2.2.1.length→f.2.2.2.2.2.1.length-k<m→out.length+((f.2.2.2.2.2.1.drop k).flatMap (selU (f.2.2.2.1.getD bi (Va.dflt T_api_Bucket)).1)).length<Mny →
    F_ref16_All.J6 n p m (out,(bi:Int),(k:Int),f,())=F_ref16_All.J10 n p (out++(f.2.2.2.2.2.1.drop k).flatMap (selU (f.2.2.2.1.getD bi (Va.dflt T_api_Bucket)).1),(bi:Int),f,())
  | 0,k,_,_,h,_=>by omega
  | m + 1,k,out,hk,h,ho=>by
    rw[F_ref16_All.e6]
    simp only[hide_n]
    by_cases hlt:k<f.2.2.2.2.2.1.length
    · have hx:=hU _ (getD_memA (d:=Va.dflt T_ref15_Row) hlt)
      have ih:=λout=>useU_J p bi f hn hb hl hl2 hU m (k+1) out
      have hgr:(0≤(k:Int)∧(k:Int)<((f.2.2.2.2.2.1.length:Nat):Int)):=⟨by omega,by omega⟩
      have hgb:(0≤(bi:Int)∧(bi:Int)<((f.2.2.2.1.length:Nat):Int)):=⟨by omega,by omega⟩
      rw[drop_cons (Va.dflt T_ref15_Row) hlt]at ho ⊢
      rw[List.flatMap_cons,List.length_append]at ho
      have ho:out.length+((selU (f.2.2.2.1.getD bi (Va.dflt T_api_Bucket)).1 (f.2.2.2.2.2.1.getD k (Va.dflt T_ref15_Row))).length+((f.2.2.2.2.2.1.drop (k+1)).flatMap (selU (f.2.2.2.1.getD bi (Va.dflt T_api_Bucket)).1)).length)<1073741824:=ho
      rw[decide_eq_true (show (k:Int)<((f.2.2.2.2.2.1.length:Nat):Int) by omega),bIf_true,List.flatMap_cons,← List.append_assoc]
      change F_ref16_All.J7 n p m n (out,(bi:Int),(k:Int),0,f,())=_
      have key:F_ref16_All.J7 n p m n (out,(bi:Int),(k:Int),0,f,())=F_ref16_All.J9 n p m (out++selU (f.2.2.2.1.getD bi (Va.dflt T_api_Bucket)).1 (f.2.2.2.2.2.1.getD k (Va.dflt T_ref15_Row)),(bi:Int),(k:Int),f,()):=by
        cases he:eqS (f.2.2.2.2.2.1.getD k (Va.dflt T_ref15_Row)).1 (f.2.2.2.1.getD bi (Va.dflt T_api_Bucket)).1 with
        | true=>
          have hs:selU (f.2.2.2.1.getD bi (Va.dflt T_api_Bucket)).1 (f.2.2.2.2.2.1.getD k (Va.dflt T_ref15_Row))=((f.2.2.2.2.2.1.getD k (Va.dflt T_ref15_Row)).2.2.2.1.2.2.2.1.map sayP).map toUse:=by
            unfold selU upSay;rw[he,if_pos rfl]
          have hsl:(((f.2.2.2.2.2.1.getD k (Va.dflt T_ref15_Row)).2.2.2.1.2.2.2.1.map sayP).map toUse).length=(f.2.2.2.2.2.1.getD k (Va.dflt T_ref15_Row)).2.2.2.1.2.2.2.1.length:=by rw[List.length_map,List.length_map]
          rw[hs]at ho ⊢
          rw[hsl]at ho
          have:=useP_J (n:=n) p m bi k f hb hlt hl hl2 he hx.2 n 0 out (by omega) (by omega) (by rw[List.drop_zero];show _<1073741824;omega)
          rw[show ((0:Nat):Int)=0 from rfl,List.drop_zero]at this
          exact this
        | false=>
          have hs:selU (f.2.2.2.1.getD bi (Va.dflt T_api_Bucket)).1 (f.2.2.2.2.2.1.getD k (Va.dflt T_ref15_Row))=[]:=by
            unfold selU;rw[he,if_neg (by decide)]
          rw[hs,List.append_nil]
          obtain⟨n',rfl⟩:∃ n',n=n'+1:=⟨n-1,by omega⟩
          rw[F_ref16_All.e7,gIf_pos hgr,gIf_pos hgb]
          simp only[hide_n,Int.toNat_natCast,Nat.zero_add]
          rw[he,bIf_false]
      rw[key,F_ref16_All.e9,cast_up k (by omega)]
      exact ih _ (by omega) (by omega) (by rw[List.length_append];show _<1073741824;omega)
    · rw[decide_eq_false (show ¬ (k:Int)<((f.2.2.2.2.2.1.length:Nat):Int) by omega),bIf_false,List.drop_eq_nil_of_le (by omega),List.flatMap_nil,List.append_nil]
def bothU (f:Flat)(b:D_api_Bucket):List Use:=f.2.2.2.2.1.flatMap (selV b.1)++f.2.2.2.2.2.1.flatMap (selU b.1)
theorem selV_len (nm:ByteArray)(l:List Row):(l.flatMap (selV nm)).length≤l.length:=by
  induction l with
  | nil=>exact Nat.le_refl _
  | cons r l ih=>
    rw[List.flatMap_cons,List.length_append,List.length_cons]
    have:(selV nm r).length≤1:=by unfold selV;split<;>simp
    omega
def rowParts (r:Row):List D_api_Part:=r.2.2.2.1.2.2.2.1
def lenU (f:Flat):Nat:=f.2.2.2.2.1.length+(f.2.2.2.2.2.1.flatMap rowParts).length
theorem selU_len (nm:ByteArray)(l:List Row):(l.flatMap (selU nm)).length≤(l.flatMap rowParts).length:=by
  induction l with
  | nil=>exact Nat.le_refl _
  | cons r l ih=>
    rw[List.flatMap_cons,List.flatMap_cons,List.length_append,List.length_append]
    have:(selU nm r).length≤(rowParts r).length:=by
      unfold selU upSay rowParts
      split
      · rw[List.length_map,List.length_map];exact Nat.le_refl _
      · exact Nat.zero_le _
    omega
theorem bothU_len (f:Flat)(b:D_api_Bucket):(bothU f b).length≤lenU f:=by
  unfold bothU lenU
  rw[List.length_append]
  have h1:=selV_len b.1 f.2.2.2.2.1
  have h2:=selU_len b.1 f.2.2.2.2.2.1
  omega
theorem useB_J (f:Flat) (hn0:n≠0) (hlV:f.2.2.2.2.1.length<n∧f.2.2.2.2.1.length<536870912) (hlU:f.2.2.2.2.2.1.length<n∧f.2.2.2.2.2.1.length<536870912) (hl2:f.2.2.2.1.length<536870912) (hU:∀ r∈f.2.2.2.2.2.1,r.2.2.2.1.2.2.2.1.length<n∧r.2.2.2.1.2.2.2.1.length<536870912):∀ (m k:Nat) (out:List Use),k≤f.2.2.2.1.length→f.2.2.2.1.length-k<m→out.length+(f.2.2.2.1.length-k)*lenU f+lenU f<Mny →
    F_ref16_All.J1 n m (out,(k:Int),f,())=some (out++(f.2.2.2.1.drop k).flatMap (bothU f),())
  | 0,k,_,_,h,_=>by omega
  | m + 1,k,out,hk,h,ho=>by
    rw[F_ref16_All.e1]
    simp only[hide_n]
    by_cases hlt:k<f.2.2.2.1.length
    · have ho:out.length+(f.2.2.2.1.length-k)*lenU f+lenU f<1073741824:=ho
      have hmul:(f.2.2.2.1.length-k)*lenU f=(f.2.2.2.1.length-(k+1))*lenU f+lenU f:=by
        rw[show f.2.2.2.1.length-k=(f.2.2.2.1.length-(k+1))+1 by omega,Nat.succ_mul]
      rw[hmul]at ho
      have hlu:lenU f=f.2.2.2.2.1.length+(f.2.2.2.2.2.1.flatMap rowParts).length:=rfl
      have hv:=useV_J (n:=n) m k f hlt hlV.2 hl2 n 0 out (by omega) (by have:=hlV.1;omega) (by rw[List.drop_zero];show _<1073741824;omega)
      have h1:=selV_len (f.2.2.2.1.getD k (Va.dflt T_api_Bucket)).1 f.2.2.2.2.1
      have h2:=selU_len (f.2.2.2.1.getD k (Va.dflt T_api_Bucket)).1 f.2.2.2.2.2.1
      have hu:=useU_J (n:=n) m k f hn0 hlt hlU.2 hl2 hU n 0 (out++f.2.2.2.2.1.flatMap (selV (f.2.2.2.1.getD k (Va.dflt T_api_Bucket)).1)) (by omega) (by have:=hlU.1;omega) (by rw[List.drop_zero,List.length_append];show _<1073741824;omega)
      rw[show ((0:Nat):Int)=0 from rfl,List.drop_zero]at hv hu
      rw[decide_eq_true (show (k:Int)<((f.2.2.2.1.length:Nat):Int) by omega),bIf_true,drop_cons (Va.dflt T_api_Bucket) hlt,List.flatMap_cons,← List.append_assoc]
      change F_ref16_All.J2 n m n (out,(k:Int),0,f,())=_
      rw[hv,F_ref16_All.e5]
      change F_ref16_All.J6 n m n (out++_,(k:Int),0,f,())=_
      have hbl:=bothU_len f (f.2.2.2.1.getD k (Va.dflt T_api_Bucket))
      rw[hu,F_ref16_All.e10,cast_up k (by omega),List.append_assoc]
      exact useB_J f hn0 hlV hlU hl2 hU m (k+1) _ (by omega) (by omega) (by
        change (out++bothU f _).length+_+_<1073741824
        rw[List.length_append];omega)
    · rw[decide_eq_false (show ¬ (k:Int)<((f.2.2.2.1.length:Nat):Int) by omega),bIf_false,F_ref16_All.e11,List.drop_eq_nil_of_le (by omega),List.flatMap_nil,List.append_nil]
theorem flatMap_map' {α β γ:Type}(g:β→γ)(f:α→List β)(l:List α):(l.flatMap f).map g=l.flatMap λx=>(f x).map g:=by
  induction l with
  | nil=>rfl
  | cons x l ih=>rw[List.flatMap_cons,List.map_append,ih,List.flatMap_cons]
theorem all_same {s:D_api_State}(h:upB ltBucket s.2.2.2.1=true):(flatS s).2.2.2.1.flatMap (bothU (flatS s))=(allSay s).map toUse:=by
  have hp:s.2.2.2.1.Pairwise (λa b=>ltS a.1 b.1=true):=(up_pair (lt:=ltBucket) (λa b c h1 h2=>ltS_trans h1 h2) s.2.2.2.1 none h).2
  have hv:=sel_all (λb:D_api_Bucket=>b.1) rowsV (λr:Row=>r.1) (λb r hr=>by
    unfold rowsV at hr
    obtain⟨o,_,ho⟩:=List.mem_flatMap.1 hr
    obtain⟨v,_,hv⟩:=List.mem_map.1 ho
    rw[← hv];rfl) (λr=>if mark r.2.2.1=true then [] else [toUse (sayV r.2.2.1)]) hp
  have hu:=sel_all (λb:D_api_Bucket=>b.1) rowsU (λr:Row=>r.1) (λb r hr=>by
    unfold rowsU at hr
    obtain⟨u,_,hu⟩:=List.mem_map.1 hr
    rw[← hu];rfl) (λr=>(upSay r.2.2.2.1).map toUse) hp
  have e1:∀ nm,selV nm=λr:Row=>if eqS r.1 nm=true then (if mark r.2.2.1=true then [] else [toUse (sayV r.2.2.1)]) else []:=λnm=>by
    funext r;unfold selV
    cases eqS r.1 nm<;>cases mark r.2.2.1<;>rfl
  have e2:∀ nm,selU nm=λr:Row=>if eqS r.1 nm=true then (upSay r.2.2.2.1).map toUse else []:=λnm=>by
    funext r;rfl
  have sv:∀ b:D_api_Bucket,((rowsV b).flatMap λr=>if mark r.2.2.1=true then [] else [toUse (sayV r.2.2.1)])=(b.2.2.2.2.1.flatMap λo=>vsSay o.2.1).map toUse:=λb=>by
    unfold rowsV
    rw[List.flatMap_assoc,flatMap_map']
    refine flatMap_congr' λo _ => ?_
    unfold vsSay
    rw[flatMap_map',List.flatMap_map]
    refine flatMap_congr' λv _ => ?_
    unfold rowV
    cases mark v<;>rfl
  have su:∀ b:D_api_Bucket,((rowsU b).flatMap λr=>(upSay r.2.2.2.1).map toUse)=(b.2.2.2.2.2.1.flatMap upSay).map toUse:=λb=>by
    unfold rowsU
    rw[List.flatMap_map,flatMap_map']
    rfl
  -- per bucket: both lists are the bucket's own
  have pv:∀ b∈s.2.2.2.1,(s.2.2.2.1.flatMap rowsV).flatMap (selV b.1)=(b.2.2.2.2.1.flatMap λo=>vsSay o.2.1).map toUse:=λb hb=>by
    rw[← sv b,e1,← sel (λb:D_api_Bucket=>b.1) (λx=>(rowsV x).flatMap λr=>if mark r.2.2.1=true then [] else [toUse (sayV r.2.2.1)]) s.2.2.2.1 hp b hb,List.flatMap_assoc]
    refine flatMap_congr' λx _ => ?_
    have hn:∀ r∈rowsV x,r.1=x.1:=λr hr=>by
      unfold rowsV at hr
      obtain⟨o,_,ho⟩:=List.mem_flatMap.1 hr
      obtain⟨v,_,hv⟩:=List.mem_map.1 ho
      rw[← hv];rfl
    cases hx:eqS x.1 b.1 with
    | true=>rw[if_pos rfl];exact flatMap_congr' λr hr=>by rw[hn r hr,hx,if_pos rfl]
    | false=>
      rw[if_neg (by decide),List.flatMap_eq_nil_iff]
      intro r hr
      rw[hn r hr,hx];rfl
  have pu:∀ b∈s.2.2.2.1,(s.2.2.2.1.flatMap rowsU).flatMap (selU b.1)=(b.2.2.2.2.2.1.flatMap upSay).map toUse:=λb hb=>by
    rw[← su b,e2,← sel (λb:D_api_Bucket=>b.1) (λx=>(rowsU x).flatMap λr=>(upSay r.2.2.2.1).map toUse) s.2.2.2.1 hp b hb,List.flatMap_assoc]
    refine flatMap_congr' λx _ => ?_
    have hn:∀ r∈rowsU x,r.1=x.1:=λr hr=>by
      unfold rowsU at hr
      obtain⟨u,_,hu⟩:=List.mem_map.1 hr
      rw[← hu];rfl
    cases hx:eqS x.1 b.1 with
    | true=>rw[if_pos rfl];exact flatMap_congr' λr hr=>by rw[hn r hr,hx,if_pos rfl]
    | false=>
      rw[if_neg (by decide),List.flatMap_eq_nil_iff]
      intro r hr
      rw[hn r hr,hx];rfl
  unfold allSay
  rw[flatMap_map']
  change (s.2.2.2.1.map bare).flatMap (bothU (flatS s))=_
  rw[List.flatMap_map]
  refine flatMap_congr' λb hb => ?_
  change (s.2.2.2.1.flatMap rowsV).flatMap (selV b.1)++(s.2.2.2.1.flatMap rowsU).flatMap (selU b.1)=(bkSay b).map toUse
  rw[pv b hb,pu b hb]
  unfold bkSay
  rw[List.map_append]
theorem rowsV_all (l:List D_api_Bucket):(l.flatMap rowsV).length≤rawS l:=by
  induction l with
  | nil=>exact Nat.le_refl _
  | cons b l ih=>
    rw[List.flatMap_cons,List.length_append,rawS_cons,rowsV_len]
    unfold rawB;omega
theorem rowsU_all (l:List D_api_Bucket):((l.flatMap rowsU).flatMap rowParts).length≤rawS l:=by
  induction l with
  | nil=>exact Nat.le_refl _
  | cons b l ih=>
    rw[List.flatMap_cons,List.flatMap_append,List.length_append,rawS_cons]
    have:((rowsU b).flatMap rowParts)=b.2.2.2.2.2.1.flatMap λu=>u.2.2.2.1:=by
      unfold rowsU;rw[List.flatMap_map];rfl
    rw[this]
    unfold rawB;omega
theorem rowsU_cnt (l:List D_api_Bucket):(l.flatMap rowsU).length≤(l.flatMap idsB).length:=by
  induction l with
  | nil=>exact Nat.le_refl _
  | cons b l ih=>
    rw[List.flatMap_cons,List.flatMap_cons,List.length_append,List.length_append]
    have:(rowsU b).length≤(idsB b).length:=by
      unfold rowsU idsB;rw[List.length_map,List.length_append,ups_len];omega
    omega
theorem state_few {s:D_api_State}(h:stateB s=true):s.2.2.2.1.length≤16∧upB ltBucket s.2.2.2.1=true:=by
  unfold stateB at h
  simp only[Bool.and_eq_true,Bool.not_eq_true',decide_eq_false_iff_not]at h
  exact⟨by omega,h.2.2.1⟩
theorem ref16_All (h3:300≤n)(hn:n≤4194304){s:D_api_State}(hs:CoS n s):F_ref16_All.f n s=some ((saysOf s).map toUse,()):=by
  have hl:=hs.len
  have hr:=hs.raw
  rw[F_ref16_All.e0,ref15_Sound h3 (by omega) hs.toStS,bnd_some]
  unfold saysOf
  cases hb:stateB s with
  | false=>rfl
  | true=>
    obtain⟨hf,hup⟩:=state_few hb
    have q1:(flatS s).2.2.2.1.length=s.2.2.2.1.length:=List.length_map ..
    have q2:(flatS s).2.2.2.2.1.length≤rawS s.2.2.2.1:=rowsV_all _
    have q3:((flatS s).2.2.2.2.2.1.flatMap rowParts).length≤rawS s.2.2.2.1:=rowsU_all _
    have q4:(flatS s).2.2.2.2.2.1.length≤(s.2.2.2.1.flatMap idsB).length:=rowsU_cnt _
    have q5:=hs.few
    have q6:lenU (flatS s)≤2*n:=by unfold lenU;omega
    have q7:s.2.2.2.1.length*lenU (flatS s)≤16*(2*n):=Nat.mul_le_mul hf q6
    have h1:=useB_J (n:=n) (flatS s) (by omega) ⟨by omega,by omega⟩ ⟨by omega,by omega⟩ (by omega) (λr hr=>by
      obtain⟨b,hb,hrb⟩:=List.mem_flatMap.1 (show r∈s.2.2.2.1.flatMap rowsU from hr)
      obtain⟨u,hu,e⟩:=List.mem_map.1 hrb
      have:=((hs.bk b hb).up u hu).ps
      rw[← e]
      change u.2.2.2.1.length<n∧u.2.2.2.1.length<536870912
      omega) n 0 [] (by omega) (by omega) (by rw[q1];change 0+(s.2.2.2.1.length-0)*_+_<1073741824;rw[Nat.sub_zero];omega)
    rw[show ((0:Nat):Int)=0 from rfl,List.drop_zero,List.nil_append,all_same hup]at h1
    rw[ref15_From (by omega) hs.toStS,bnd_some]
    exact h1
theorem says_dig (hn:n≤536870912) {s:D_api_State} (hs:CoS n s):∀ y∈saysOf s,y.2.2.1.length=32:=by
  intro y hy
  unfold saysOf at hy
  split at hy
  · obtain⟨b,hb,hy⟩:=List.mem_flatMap.1 hy
    unfold bkSay at hy
    rcases List.mem_append.1 hy with hy | hy
    · obtain⟨o,ho,hy⟩:=List.mem_flatMap.1 hy
      obtain⟨v,hv,hy⟩:=List.mem_flatMap.1 hy
      split at hy
      · exact nomatch hy
      · have:y=sayV v:=by simpa using hy
        rw[this]
        exact (((hs.bk b hb).ob o ho).list.all v hv).dig
    · obtain⟨u,hu,hy⟩:=List.mem_flatMap.1 hy
      obtain⟨p,hp,e⟩:=List.mem_map.1 hy
      rw[← e]
      exact hs.pd b hb u hu p hp
  · exact nomatch hy
end
end Go.Proofs.YtemhlkdingkjnaaGreatDoor
namespace Go.Proofs.YtemhlkdingkjnaaGreatDoor
open Go Go.Va Go.Proofs Go.ChangeShapes Go.WideShapes Go.ChangeAt Go.RowKit
theorem rawB_le (b:D_api_Bucket):rawB b≤vol T_api_Bucket b:=by
  rw[vol_Bk]
  unfold rawB
  have h1:(b.2.2.2.2.1.flatMap λo=>o.2.1).length≤(b.2.2.2.2.1.map (vol T_api_Object)).sum:=flat_le λo _=>by
    rw[vol_Ob]
    have l1:=vol_len (e:=T_api_Version) (l:=o.2.1) (λx _=>by rw[vol_Ver];omega)
    omega
  have h2:(b.2.2.2.2.2.1.flatMap λu=>u.2.2.2.1).length≤(b.2.2.2.2.2.1.map (vol T_api_Upload)).sum:=flat_le λu _=>by
    rw[vol_Up]
    have l1:=vol_len (e:=T_api_Part) (l:=u.2.2.2.1) (λx _=>vol_Part x)
    omega
  omega
theorem CS_of {s:D_api_State}(h:vol T_api_State s<2097152)(hw:Wf T_api_State s):CoS 2097152 s:=by
  have hs:=S_of h hw
  rw[vol_St]at h
  refine⟨hs,?_,λb hb u hu p hp => ?_⟩
  · have:rawS s.2.2.2.1≤(s.2.2.2.1.map (vol T_api_Bucket)).sum:=by
      unfold rawS;exact sum_le λb _=>rawB_le b
    omega
  · have wb:=hw.2.2.2.1.2 b hb
    have wu:=wb.2.2.2.2.2.1.2 u hu
    have wp:=wu.2.2.2.1.2 p hp
    exact wp.2.2.2.1.1
end Go.Proofs.YtemhlkdingkjnaaGreatDoor
namespace Go.Proofs.YtemhlkdingkjnaaGreatDoor
open Go Go.Va Go.Proofs Go.Sort
def ltU (x y:Use):Bool:=decide (x.1<y.1)
def incU (u:Use):Use:=(u.1,(u.2.1+1,u.2.2))
def newU (x:Says):Use:=(x.1,(1,x.2))
def incB (b:Int)(O:List Use):List Use:=O.map λu=>if u.1=b then incU u else u
def has (b:Int)(O:List Use):Bool:=O.any λu=>u.1==b
def keysU (O:List Use):List Int:=O.map λu=>u.1
def progStep (O:List Use)(x:Says):List Use:=if has x.1 O=true then incB x.1 O else O++[newU x]
def insU (u:Use):List Use→List Use
  | []=>[u]
  | v::l=>if v.1<u.1 then v::insU u l else u::v::l
def refStep (O:List Use)(x:Says):List Use:=if has x.1 O=true then incB x.1 O else insU (newU x) O
theorem keys_inc (b:Int)(O:List Use):keysU (incB b O)=keysU O:=by
  unfold keysU incB
  rw[List.map_map]
  refine List.map_congr_left λu _ => ?_
  simp only[Function.comp]
  split<;>rfl
theorem has_iff {b:Int}{O:List Use}:has b O=true↔b∈keysU O:=by
  unfold has keysU
  rw[List.any_eq_true,List.mem_map]
  exact⟨λ⟨u,h,e⟩=>⟨u,h,beq_iff_eq.1 e⟩,λ⟨u,h,e⟩=>⟨u,h,beq_iff_eq.2 e⟩⟩
theorem inc_none {b:Int}{O:List Use}(h:has b O=false):incB b O=O:=by
  unfold incB
  conv=>rhs;rw[← List.map_id' O]
  refine List.map_congr_left λu hu => ?_
  rw[if_neg]
  intro e
  have:=List.any_eq_false.1 h u hu
  exact this (beq_iff_eq.2 e)
theorem ins_perm (u:Use):∀ l,(insU u l).Perm (u::l)
  | [] => .refl _
  | v::l=>by
    unfold insU
    split
    · exact ((ins_perm u l).cons v).trans (.swap u v l)
    · exact .refl _
def Up (O:List Use):Prop:=O.Pairwise λx y=>x.1<y.1
theorem up_ins {u:Use}:∀ {l:List Use},Up l→u.1 ∉ keysU l→Up (insU u l)
  | [],_,_ => .cons (λ_ h=>nomatch h) .nil
  | v :: l,h,hn=>by
    unfold insU
    have hn1:u.1≠v.1:=λe=>hn (by unfold keysU;simp[e])
    have hn2:u.1 ∉ keysU l:=λe=>hn (by unfold keysU at e ⊢; simp only[List.map_cons,List.mem_cons];exact .inr e)
    cases h with
    | cons h1 h2=>
      split
      · next hlt=>
        refine .cons (λy hy => ?_) (up_ins h2 hn2)
        rcases List.mem_cons.1 ((ins_perm u l).mem_iff.1 hy) with rfl | hy
        · exact hlt
        · exact h1 y hy
      · next hlt=>
        refine .cons (λy hy => ?_) (.cons h1 h2)
        rcases List.mem_cons.1 hy with rfl | hy
        · omega
        · have:=h1 y hy;omega
theorem up_inc {b:Int}{O:List Use}(h:Up O):Up (incB b O):=by
  unfold Up at h ⊢
  have e:∀ l:List Use,l.Pairwise (λx y=>x.1<y.1)↔(keysU l).Pairwise (· < ·):=λl=>by
    unfold keysU;rw[List.pairwise_map]
  rw[e]at h ⊢
  rw[keys_inc];exact h
theorem up_step {O:List Use}(h:Up O)(x:Says):Up (refStep O x):=by
  unfold refStep
  split
  · exact up_inc h
  · next hn=>exact up_ins h λe=>hn (has_iff.2 e)
theorem perm_has {b:Int}{P R:List Use}(h:P.Perm R):has b P=has b R:=by
  rw[Bool.eq_iff_iff,has_iff,has_iff]
  unfold keysU
  exact (h.map _).mem_iff
theorem perm_step {P R:List Use}(h:P.Perm R)(x:Says):(progStep P x).Perm (refStep R x):=by
  unfold progStep refStep
  rw[perm_has h]
  split
  · exact h.map _
  · exact ((h.append_right _).trans (List.perm_append_comm (l₁:=R) (l₂:=[newU x]))).trans (ins_perm _ _).symm
theorem both_ways:∀ (l:List Says) {P R:List Use},P.Perm R→Up R→(l.foldl progStep P).Perm (l.foldl refStep R)∧Up (l.foldl refStep R)
  | [],_,_,h,u=>⟨h,u⟩
  | x::l,_,_,h,u=>both_ways l (perm_step h x) (up_step u x)
theorem swo_ltU:SWO ltU:=by
  refine⟨λx => ?_,λx y z h1 h2 => ?_,λx y z h1 h2 => ?_⟩
  · unfold ltU;exact decide_eq_false (by omega)
  · unfold ltU at *
    have h1:=of_decide_eq_true h1;have h2:=of_decide_eq_true h2
    exact decide_eq_true (by omega)
  · unfold ltU at *
    have h1:=of_decide_eq_false h1;have h2:=of_decide_eq_false h2
    exact decide_eq_false (by omega)
theorem part_perm {P R:List Use}(h:P.Perm R)(u:Up R):Part ltU P:=by
  unfold Part
  refine (h.pairwise_iff (fun {x y} e=>Or.symm e)).2 (u.imp fun {x y} e => .inl ?_)
  unfold ltU;exact decide_eq_true e
theorem sort_prog (l:List Says):Part ltU (l.foldl progStep [])∧sortD ltU (l.foldl progStep [])=l.foldl refStep []:=by
  obtain⟨h,u⟩:=both_ways l (.refl _) (R:=[]) .nil
  have hp:=part_perm h u
  refine⟨hp,(sortD_is swo_ltU hp h.symm (u.imp fun {x y} e => ?_)).symm⟩
  unfold ltU;exact decide_eq_false (by omega)
theorem len_prog:∀ (l:List Says) (P:List Use),(l.foldl progStep P).length≤P.length+l.length
  | [],P=>by simp
  | x :: l,P=>by
    have h:=len_prog l (progStep P x)
    have h1:(progStep P x).length≤P.length+1:=by
      unfold progStep;split
      · unfold incB;rw[List.length_map];omega
      · simp
    rw[List.foldl_cons,List.length_cons];omega
theorem len_ins (u:Use)(l:List Use):(insU u l).length=l.length+1:=by rw[(ins_perm u l).length_eq];rfl
theorem len_ref:∀ (l:List Says) (P:List Use),(l.foldl refStep P).length≤P.length+l.length
  | [],P=>by simp
  | x :: l,P=>by
    have h:=len_ref l (refStep P x)
    have h1:(refStep P x).length≤P.length+1:=by
      unfold refStep;split
      · unfold incB;rw[List.length_map];omega
      · rw[len_ins];omega
    rw[List.foldl_cons,List.length_cons];omega
def cntLe (m:Int)(O:List Use):Prop:=∀ u∈O,0≤u.2.1∧u.2.1≤m
theorem cnt_inc {m b:Int}{O:List Use}(h:cntLe m O):cntLe (m+1) (incB b O):=λu hu=>by
  obtain⟨v,hv,rfl⟩:=List.mem_map.1 hu
  have:=h v hv
  split
  · unfold incU;dsimp only;omega
  · omega
theorem cnt_prog {m:Int}{O:List Use}(h0:0≤m)(h:cntLe m O)(x:Says):cntLe (m+1) (progStep O x):=by
  unfold progStep;split
  · exact cnt_inc h
  · intro u hu
    rcases List.mem_append.1 hu with hu | hu
    · have:=h u hu;omega
    · rw[show u=newU x by simpa using hu];unfold newU;dsimp only;omega
theorem cnt_ref {m:Int}{O:List Use}(h0:0≤m)(h:cntLe m O)(x:Says):cntLe (m+1) (refStep O x):=by
  unfold refStep;split
  · exact cnt_inc h
  · intro u hu
    rcases List.mem_cons.1 ((ins_perm _ _).mem_iff.1 hu) with rfl | hu
    · unfold newU;dsimp only;omega
    · have:=h u hu;omega
def lastLt (b:Int):Nat→List Use→Nat→Nat
  | _,[],a=>a
  | i,u::l,a=>lastLt b (i+1) l (if u.1<b then i+1 else a)
def cntLt (b:Int):List Use→Nat
  | []=>0
  | u::l=>if u.1<b then cntLt b l+1 else 0
theorem last_none {b:Int}:∀ (l:List Use) (i a:Nat),(∀ u∈l,¬ u.1<b)→lastLt b i l a=a
  | [],_,_,_=>rfl
  | u::l,i,a,h=>by
    unfold lastLt
    rw[if_neg (h u (by simp))]
    exact last_none l _ _ λv hv=>h v (by simp[hv])
theorem lastLt_is {b:Int}:∀ (l:List Use) (i:Nat),Up l→lastLt b i l i=i+cntLt b l
  | [],_,_=>rfl
  | u :: l,i,h=>by
    unfold lastLt cntLt
    cases h with
    | cons h1 h2=>
      by_cases hu:u.1<b
      · rw[if_pos hu,if_pos hu,lastLt_is l (i+1) h2];omega
      · rw[if_neg hu,if_neg hu,last_none l _ _ λv hv=>by have:=h1 v hv;omega];rfl
theorem insU_is (x:Use):∀ l:List Use,l.take (cntLt x.1 l)++x::l.drop (cntLt x.1 l)=insU x l
  | []=>rfl
  | u::l=>by
    unfold insU cntLt
    by_cases hu:u.1<x.1
    · rw[if_pos hu,if_pos hu,List.take_succ_cons,List.drop_succ_cons,List.cons_append,insU_is x l]
    · rw[if_neg hu,if_neg hu];rfl
theorem cntLt_le (b:Int):∀ l:List Use,cntLt b l≤l.length
  | []=>Nat.le_refl _
  | u::l=>by
    unfold cntLt
    have:=cntLt_le b l
    split<;>simp only[List.length_cons]<;>omega
end Go.Proofs.YtemhlkdingkjnaaGreatDoor
namespace Go.Proofs.YtemhlkdingkjnaaGreatDoor
open Go Go.Va Go.Proofs
abbrev At64:Type:=List (Int×Int)
def gotA (f:At64)(b:Int):Int×Bool:=mGet (.int .u64) (.int .i64) f b
def setA (f:At64)(b x:Int):At64:=mSet (.int .u64) (.int .i64) f b x
theorem gotA_set:∀ (f:At64) (b c x:Int),gotA (setA f b x) c=if c=b then (x,true) else gotA f c
  | [],b,c,x=>by
    change (if decide (c=b)=true then (x,true) else gotA [] c)=_
    by_cases h:c=b
    · rw[decide_eq_true h,if_pos rfl,if_pos h]
    · rw[decide_eq_false h,if_neg (by decide),if_neg h]
  | (k, v)::l,b,c,x=>by
    have ih:=gotA_set l b c x
    unfold gotA setA at ih ⊢
    unfold mSet
    change mGet (.int .u64) (.int .i64) (if decide (b=k)=true then (b,x)::l else (k,v)::mSet (.int .u64) (.int .i64) l b x) c=_
    by_cases hk:b=k
    · subst hk
      rw[decide_eq_true rfl,if_pos rfl]
      unfold mGet
      change (if decide (c=b)=true then (x,true) else mGet (.int .u64) (.int .i64) l c)=if c=b then (x,true) else (if decide (c=b)=true then (v,true) else mGet (.int .u64) (.int .i64) l c)
      by_cases h:c=b
      · rw[decide_eq_true h,if_pos rfl,if_pos h]
      · rw[decide_eq_false h,if_neg (by decide),if_neg h,if_neg (by decide)]
    · rw[decide_eq_false hk,if_neg (by decide)]
      unfold mGet
      change (if decide (c=k)=true then (v,true) else mGet (.int .u64) (.int .i64) (mSet (.int .u64) (.int .i64) l b x) c)=if c=b then (x,true) else (if decide (c=k)=true then (v,true) else mGet (.int .u64) (.int .i64) l c)
      by_cases h:c=k
      · subst h
        rw[decide_eq_true rfl,if_pos rfl,if_neg (λe=>hk e.symm),if_pos rfl]
      · rw[decide_eq_false h];exact ih
def InvP (f:At64)(O:List Use):Prop:=∀ b,(gotA f b).2=has b O∧(has b O=true→∃ i:Nat,i<O.length∧(gotA f b).1=(i:Int)∧(O.getD i (Va.dflt T_count_Use)).1=b)
def Uniq (O:List Use):Prop:=(keysU O).Nodup
theorem uniq_prog {O:List Use}(h:Uniq O)(x:Says):Uniq (progStep O x):=by
  unfold progStep Uniq at *
  split
  · rw[keys_inc];exact h
  · next hn=>
    unfold keysU at *
    rw[List.map_append,List.nodup_append]
    refine⟨h,List.nodup_cons.2 ⟨by simp,List.nodup_nil⟩,λa ha b hb e=>hn (has_iff.2 ?_)⟩
    have hb:b=(newU x).1:=by simpa using hb
    rw[e,hb]at ha
    exact ha
theorem set_inc {b:Int}:∀ (O:List Use) (i:Nat),i<O.length→Uniq O→(O.getD i (Va.dflt T_count_Use)).1=b→O.set i (incU (O.getD i (Va.dflt T_count_Use)))=incB b O
  | [],i,h,_,_=>by simp at h
  | u :: l,0,_,hu,hb=>by
    unfold Uniq keysU at hu
    rw[List.map_cons,List.nodup_cons]at hu
    have hb:u.1=b:=hb
    have hn:has b l=false:=by
      cases hh:has b l with
      | false=>rfl
      | true=>exact absurd (has_iff.1 hh) (by rw[← hb];exact hu.1)
    show incU u::l=(if u.1=b then incU u else u)::incB b l
    rw[if_pos hb,inc_none hn]
  | u :: l,i+1,h,hu,hb=>by
    have h':i<l.length:=by simpa using h
    unfold Uniq keysU at hu
    rw[List.map_cons,List.nodup_cons]at hu
    have hb:(l.getD i (Va.dflt T_count_Use)).1=b:=hb
    have hne:u.1≠b:=λe=>hu.1 (by
      rw[e,← hb]
      exact List.mem_map.2 ⟨_,getD_memA h',rfl⟩)
    show u::l.set i (incU (l.getD i (Va.dflt T_count_Use)))=(if u.1=b then incU u else u)::incB b l
    rw[if_neg hne,set_inc l i h' hu.2 hb]
theorem set_last (O:List Use)(u v:Use):(O++[u]).set O.length v=O++[v]:=by
  rw[List.set_append_right _ _ (Nat.le_refl _),Nat.sub_self];rfl
theorem getD_last (O:List Use)(u d:Use):(O++[u]).getD O.length d=u:=by
  rw[List.getD_eq_getElem?_getD,List.getElem?_append_right (Nat.le_refl _),Nat.sub_self];rfl
theorem has_inc {b c:Int}{O:List Use}:has c (incB b O)=has c O:=by
  rw[Bool.eq_iff_iff,has_iff,has_iff,keys_inc]
theorem has_app {c:Int}{O:List Use}{u:Use}:has c (O++[u])=(has c O||(u.1==c)):=by
  unfold has;rw[List.any_append,List.any_cons,List.any_nil,Bool.or_false]
theorem getD_key {b:Int}{O:List Use}{i:Nat}(h:i<O.length):((incB b O).getD i (Va.dflt T_count_Use)).1=(O.getD i (Va.dflt T_count_Use)).1:=by
  unfold incB
  rw[List.getD_eq_getElem?_getD,List.getD_eq_getElem?_getD,List.getElem?_map,List.getElem?_eq_getElem h]
  show (if (O[i]).1=b then incU O[i] else O[i]).1=(O[i]).1
  split<;>rfl
theorem inv_there {f:At64}{O:List Use}(h:InvP f O){b:Int}:InvP f (incB b O):=λc=>by
  obtain⟨h1,h2⟩:=h c
  rw[has_inc]
  refine⟨h1,λhc => ?_⟩
  obtain⟨i,g1,g2,g3⟩:=h2 hc
  exact⟨i,by unfold incB;rw[List.length_map];exact g1,g2,(getD_key g1).trans g3⟩
theorem inv_new {f:At64}{O:List Use}(h:InvP f O){u:Use}(hn:has u.1 O=false):InvP (setA f u.1 (O.length:Int)) (O++[u]):=λc=>by
  obtain⟨h1,h2⟩:=h c
  rw[gotA_set,has_app]
  by_cases hc:c=u.1
  · subst hc
    rw[if_pos rfl,hn]
    refine⟨by simp,λ_=>⟨O.length,by simp,rfl,by rw[getD_last]⟩⟩
  · rw[if_neg hc,show (u.1==c)=false from beq_eq_false_iff_ne.2 (Ne.symm hc),Bool.or_false]
    refine⟨h1,λhh => ?_⟩
    obtain⟨i,g1,g2,g3⟩:=h2 hh
    refine⟨i,by rw[List.length_append];omega,g2,?_⟩
    rw[List.getD_eq_getElem?_getD,List.getElem?_append_left g1,← List.getD_eq_getElem?_getD]
    exact g3
section
variable {n:Nat}
def usesOf (s:D_api_State):List Use:=(saysOf s).foldl refStep []
theorem uses_J (l:List Says) (hl:l.length<536870912):∀ (m k:Nat) (f:At64) (O:List Use),k≤l.length→l.length-k<m→InvP f O→Uniq O→cntLe (k:Int) O→O.length≤k →
    F_count_Uses.J1 n m (f,O,l,((l.length:Nat):Int),(k:Int),())=F_count_Uses.J3 n ((l.drop k).foldl progStep O,())
  | 0,k,_,_,_,h,_,_,_,_=>by omega
  | m + 1,k,f,O,hk,h,hI,hU,hC,hO=>by
    rw[F_count_Uses.e1]
    simp only[hide_n]
    by_cases hlt:k<l.length
    · rw[drop_cons (Va.dflt T_count_says) hlt,List.foldl_cons,decide_eq_true (show (k:Int)<((l.length:Nat):Int) by omega),bIf_true,gIf_pos ⟨by omega,by omega⟩,Int.toNat_natCast,Nat.zero_add]
      generalize l.getD k (Va.dflt T_count_says)=x
      have hC2:=cnt_prog (by omega) hC x
      have hU2:=uniq_prog hU x
      obtain⟨g1,g2⟩:=hI x.1
      have e2:∀ (f':At64) (O':List Use) (i:Nat),i<O'.length→(O'.getD i (Va.dflt T_count_Use)).2.1<1073741824→0≤(O'.getD i (Va.dflt T_count_Use)).2.1→F_count_Uses.J2 n m (f',O',(i:Int),l,((l.length:Nat):Int),(k:Int),())=F_count_Uses.J1 n m (f',O'.set i (incU (O'.getD i (Va.dflt T_count_Use))),l,((l.length:Nat):Int),((k+1:Nat):Int),()):=λf' O' i hi hc hc0=>by
        rw[F_count_Uses.e2,gIf_pos ⟨by omega,by omega⟩,gIf_pos ⟨by omega,by omega⟩,cast_up k (by omega),Int.toNat_natCast,Nat.zero_add,wrap_i64 (by omega)]
        rfl
      have g1':(mGet (.int .u64) (.int .i64) f x.1).2=has x.1 O:=g1
      cases hh:has x.1 O with
      | true=>
        obtain⟨i,k1,k2,k3⟩:=g2 hh
        have k2':(mGet (.int .u64) (.int .i64) f x.1).1=(i:Int):=k2
        rw[hh]at g1'
        have hm:=hC _ (getD_memA (d:=Va.dflt T_count_Use) k1)
        rw[g1',Bool.not_true,bIf_false,k2',e2 f O i k1 (by omega) hm.1,set_inc O i k1 hU k3]
        have hp:progStep O x=incB x.1 O:=by unfold progStep;rw[hh,if_pos rfl]
        rw[hp]at hC2 hU2 ⊢
        exact uses_J l hl m (k+1) f _ (by omega) (by omega) (inv_there hI) hU2 hC2 (by unfold incB;rw[List.length_map];omega)
      | false=>
        rw[hh]at g1'
        have hp:progStep O x=O++[newU x]:=by unfold progStep;rw[hh,if_neg (by decide)]
        rw[g1',Bool.not_false,bIf_true,gIf_pos (by omega)]
        change F_count_Uses.J2 n m (setA f x.1 ((O.length:Nat):Int),O++[(x.1,(0,x.2))],((O.length:Nat):Int),l,((l.length:Nat):Int),(k:Int),())=_
        rw[e2 _ _ O.length (by simp) (by rw[getD_last];show (0:Int)<1073741824;omega) (by rw[getD_last];show (0:Int)≤0;omega),getD_last,set_last]
        change F_count_Uses.J1 n m (setA f x.1 ((O.length:Nat):Int),O++[newU x],l,((l.length:Nat):Int),((k+1:Nat):Int),())=_
        rw[hp]at hC2 hU2 ⊢
        exact uses_J l hl m (k+1) _ _ (by omega) (by omega) (inv_new (u:=newU x) hI hh) hU2 hC2 (by rw[List.length_append,List.length_singleton];omega)
    · rw[decide_eq_false (show ¬ (k:Int)<((l.length:Nat):Int) by omega),bIf_false,List.drop_eq_nil_of_le (by omega)]
      rfl
theorem clip_Use (l:List Use):F_slices_Clip_Use.f n l=some (l,()):=by
  rw[F_slices_Clip_Use.e0,gIf_pos ⟨by omega,by omega⟩,gIf_pos ⟨by omega,by omega⟩,gIf_pos ⟨by omega,by omega,rfl⟩]
  simp
theorem count_Uses (h3:300≤n)(hn:n≤4194304){s:D_api_State}(hs:CoS n s):F_count_Uses.f n s=some (usesOf s,()):=by
  have hl:=says_len hs
  rw[F_count_Uses.e0,count_all h3 (by omega) hs,bnd_some]
  have:=uses_J (n:=n) (saysOf s) (by omega) n 0 [] [] (by omega) (by omega) (λb=>⟨rfl,λh=>nomatch h⟩) List.nodup_nil (λu hu=>nomatch hu) (Nat.le_refl _)
  rw[show ((0:Nat):Int)=0 from rfl,List.drop_zero]at this
  rw[this,F_count_Uses.e3]
  obtain⟨p1,p2⟩:=sort_prog (saysOf s)
  have hlen:=len_prog (saysOf s) []
  have hlen:((saysOf s).foldl progStep []).length≤0+(saysOf s).length:=hlen
  rw[gIf_pos ⟨by omega,p1⟩]
  change bnd (F_slices_Clip_Use.f n (sortD ltU ((saysOf s).foldl progStep []))) _=_
  rw[p2,clip_Use,bnd_some]
  rfl
theorem getD_mid (A B:List Use)(u d:Use):(A++u::B).getD A.length d=u:=by
  rw[List.getD_eq_getElem?_getD,List.getElem?_append_right (Nat.le_refl _),Nat.sub_self];rfl
theorem set_mid (A B:List Use)(u v:Use):(A++u::B).set A.length v=A++v::B:=by
  rw[List.set_append_right _ _ (Nat.le_refl _),Nat.sub_self];rfl
theorem inc_app (b:Int)(A B:List Use):incB b (A++B)=incB b A++incB b B:=List.map_append
theorem len_inc (b:Int)(A:List Use):(incB b A).length=A.length:=by unfold incB;rw[List.length_map]
theorem inner_J (Q:List Use) (i m1:Nat) (hi:i<Q.length) {b:Int} (hb:(Q.getD i (Va.dflt T_count_Use)).1=b):∀ (R P:List Use) (m at_:Nat) (there:Bool),R.length<m→P.length+R.length<536870912→cntLe 1073741823 R →
    F_ref16_Uses.J2 n m1 m (Q,incB b P++R,(i:Int),(at_:Int),there,(P.length:Int),())=F_ref16_Uses.J5 n m1 (Q,incB b (P++R),(i:Int),(lastLt b P.length R at_:Int),there||has b R,())
  | R,P,0,_,_,h,_,_=>by omega
  | [],P,m+1,at_,there,h,hl,hc=>by
    rw[F_ref16_Uses.e2]
    simp only[hide_n]
    rw[List.append_nil,List.append_nil,len_inc,decide_eq_false (by omega),bIf_false,show has b []=false from rfl,Bool.or_false]
    rfl
  | u :: R,P,m+1,at_,there,h,hl,hc=>by
    rw[List.length_cons]at h hl
    have hgk:(0≤(P.length:Int)∧(P.length:Int)<(((incB b P++u::R).length:Nat):Int)):=by
      rw[List.length_append,len_inc,List.length_cons];omega
    have hgk':∀ v:Use,(0≤(P.length:Int)∧(P.length:Int)<(((incB b P++v::R).length:Nat):Int)):=λv=>by
      rw[List.length_append,len_inc,List.length_cons];omega
    have hgi:(0≤(i:Int)∧(i:Int)<((Q.length:Nat):Int)):=by omega
    have gm:∀ v:Use,(incB b P++v::R).getD P.length (Va.dflt T_count_Use)=v:=λv=>by
      have:=getD_mid (incB b P) R v (Va.dflt T_count_Use);rwa [len_inc]at this
    have sm:∀ v:Use,(incB b P++u::R).set P.length v=incB b P++v::R:=λv=>by
      have:=set_mid (incB b P) R u v;rwa [len_inc]at this
    have ih:=λat' th'=>inner_J Q i m1 hi hb R (P++[u]) m at' th' (by omega) (by rw[List.length_append,List.length_singleton];omega) (λv hv=>hc v (by simp[hv]))
    rw[F_ref16_Uses.e2]
    simp only[hide_n]
    rw[decide_eq_true hgk.2,bIf_true,gIf_pos hgk,gIf_pos hgi]
    simp only[Int.toNat_natCast,Nat.zero_add]
    rw[gm,hb]
    have e3:∀ (v:Use) (th':Bool),v.1=u.1→F_ref16_Uses.J3 n m1 m (Q,incB b P++v::R,(i:Int),(at_:Int),th',(P.length:Int),())=F_ref16_Uses.J2 n m1 m (Q,incB b P++v::R,(i:Int),((if u.1<b then P.length+1 else at_:Nat):Int),th',((P.length+1:Nat):Int),()):=λv th' hv=>by
      rw[F_ref16_Uses.e3,gIf_pos (hgk' v),gIf_pos hgi]
      simp only[hide_n,Int.toNat_natCast,Nat.zero_add]
      rw[gm,hb,hv,F_ref16_Uses.e4,F_ref16_Uses.e4,cast_up P.length (by omega)]
      by_cases hub:u.1<b
      · rw[decide_eq_true hub,bIf_true,if_pos hub]
      · rw[decide_eq_false hub,bIf_false,if_neg hub]
    rw[List.length_append,List.length_singleton,inc_app,List.append_assoc,List.append_assoc]at ih
    by_cases hub:u.1=b
    · have hcu:=hc u (by simp)
      rw[beq_iff_eq.2 hub,bIf_true,gIf_pos hgk,gIf_pos hgk,sm,wrap_i64 (by omega),e3 (u.1,(u.2.1+1,u.2.2)) true rfl]
      have e1:incB b [u]++R=(u.1,(u.2.1+1,u.2.2))::R:=by
        show (if u.1=b then incU u else u)::R=_
        rw[if_pos hub];rfl
      rw[e1]at ih
      rw[ih]
      have e2:(there||has b (u::R))=(true||has b R):=by
        unfold has;rw[List.any_cons,beq_iff_eq.2 hub];simp
      rw[e2]
      rfl
    · have hf:(u.1==b)=false:=beq_eq_false_iff_ne.2 hub
      rw[hf,bIf_false,e3 u there rfl]
      have e1:incB b [u]++R=u::R:=by
        show (if u.1=b then incU u else u)::R=_
        rw[if_neg hub]
      rw[e1]at ih
      rw[ih]
      have e2:has b (u::R)=has b R:=by unfold has;rw[List.any_cons,hf];rfl
      rw[e2]
      rfl
theorem ref_J (L:List Says) (hl:L.length<16777216) (hn:L.length<n):∀ (m k:Nat) (O:List Use),k≤L.length→L.length-k<m→Up O→cntLe (k:Int) O→O.length≤k →
    F_ref16_Uses.J1 n m (L.map toUse,O,(k:Int),())=some ((L.drop k).foldl refStep O,())
  | 0,k,_,_,h,_,_,_=>by omega
  | m + 1,k,O,hk,h,hU,hC,hO=>by
    rw[F_ref16_Uses.e1]
    simp only[hide_n]
    rw[List.length_map]
    by_cases hlt:k<L.length
    · rw[drop_cons (Va.dflt T_count_says) hlt,List.foldl_cons,decide_eq_true (show (k:Int)<((L.length:Nat):Int) by omega),bIf_true]
      have hx:(L.map toUse).getD k (Va.dflt T_count_Use)=newU (L.getD k (Va.dflt T_count_says)):=by
        rw[List.getD_eq_getElem?_getD,List.getElem?_map,List.getD_eq_getElem?_getD,List.getElem?_eq_getElem hlt];rfl
      generalize L.getD k (Va.dflt T_count_says)=x at hx ⊢
      have hi:k<(L.map toUse).length:=by rw[List.length_map];exact hlt
      have h1:=inner_J (n:=n) (L.map toUse) k m hi (b:=x.1) (by rw[hx];rfl) O [] n 0 false (by omega) (by show 0+O.length<_;omega) (λu hu=>by have:=hC u hu;omega)
      have h1:F_ref16_Uses.J2 n m n (L.map toUse,O,(k:Int),0,false,0,())=F_ref16_Uses.J5 n m (L.map toUse,incB x.1 O,(k:Int),(lastLt x.1 0 O 0:Int),has x.1 O,()):=h1
      have hC2:=cnt_ref (by omega) hC x
      have hU2:=up_step hU x
      rw[h1,lastLt_is O 0 hU,Nat.zero_add,F_ref16_Uses.e5]
      have e6:∀ O',F_ref16_Uses.J6 n m (L.map toUse,O',(k:Int),())=F_ref16_Uses.J1 n m (L.map toUse,O',((k+1:Nat):Int),()):=λO'=>by rw[F_ref16_Uses.e6,cast_up k (by omega)]
      cases hh:has x.1 O with
      | true=>
        have hp:refStep O x=incB x.1 O:=by unfold refStep;rw[hh,if_pos rfl]
        rw[hp]at hC2 hU2 ⊢
        rw[Bool.not_true,bIf_false,e6]
        exact ref_J L hl hn m (k+1) _ (by omega) (by omega) hU2 hC2 (by rw[len_inc];omega)
      | false=>
        have hp:refStep O x=insU (newU x) O:=by unfold refStep;rw[hh,if_neg (by decide)]
        have hle:=cntLt_le x.1 O
        rw[hp]at hC2 hU2 ⊢
        rw[Bool.not_false,bIf_true,inc_none hh]
        simp only[Int.toNat_natCast,Nat.zero_add,List.drop_zero,Nat.sub_zero,List.nil_append,List.length_nil]
        rw[hx,List.length_map]
        have hd:(O.drop (cntLt x.1 O)).take (O.length-cntLt x.1 O)=O.drop (cntLt x.1 O):=List.take_of_length_le (by rw[List.length_drop];omega)
        have hlt':(O.take (cntLt x.1 O)).length=cntLt x.1 O:=by rw[List.length_take];omega
        rw[hd,gIf_pos ⟨by omega,by omega⟩,gIf_pos ⟨by omega,by omega⟩,gIf_pos (by rw[hlt'];omega),gIf_pos ⟨by omega,by omega⟩,gIf_pos (by rw[hlt'];omega),gIf_pos ⟨by omega,by omega⟩,gIf_pos ⟨by omega,by omega⟩,gIf_pos (by rw[List.length_append,hlt',List.length_drop,List.length_singleton];omega),List.append_assoc]
        have hins:=insU_is (newU x) O
        have hins:O.take (cntLt x.1 O)++newU x::O.drop (cntLt x.1 O)=insU (newU x) O:=hins
        rw[List.singleton_append,hins,e6]
        exact ref_J L hl hn m (k+1) _ (by omega) (by omega) hU2 hC2 (by rw[len_ins];omega)
    · rw[decide_eq_false (show ¬ (k:Int)<((L.length:Nat):Int) by omega),bIf_false,List.drop_eq_nil_of_le (by omega),F_ref16_Uses.e7]
      rfl
theorem ref16_Uses (h3:300≤n)(hn:n≤4194304){s:D_api_State}(hs:CoS n s):F_ref16_Uses.f n s=some (usesOf s,()):=by
  have hl:=says_len hs
  rw[F_ref16_Uses.e0,ref16_All h3 hn hs,bnd_some]
  have:=ref_J (n:=n) (saysOf s) (by omega) hl n 0 [] (by omega) (by omega) .nil (λu hu=>nomatch hu) (Nat.le_refl _)
  rw[show ((0:Nat):Int)=0 from rfl,List.drop_zero]at this
  exact this
def addS (a:Int)(u:Use):Int:=IntKind.i64.wrap (a+u.2.2.1)
theorem uses_len {s:D_api_State}(hs:CoS n s):(usesOf s).length<n:=by
  have h1:=says_len hs
  have h2:(usesOf s).length≤0+(saysOf s).length:=len_ref (saysOf s) []
  omega
end
end Go.Proofs.YtemhlkdingkjnaaGreatDoor
