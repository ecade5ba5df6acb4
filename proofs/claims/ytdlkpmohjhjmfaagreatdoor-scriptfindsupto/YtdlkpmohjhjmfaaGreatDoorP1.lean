/-
  The plain laws.
-/
import Derived.Test.YtdlkpmohjhjmfaaGreatDoorP0
import Derived.Test.YtdlkpmohjhjmfaaGreatDoorF1
import Derived.Test.YtdlkpmohjhjmfaaGreatDoorF0
import Derived.Test.YtdlkpmohjhjmfaaGreatDoorRows
import Derived.Test.YtdlkpmohjhjmfaaGreatDoorCards
import Derived.Test.YtdlkpmohjhjmfaaGreatDoorTie
import Derived.JoinedCond
import Derived.ChangeCalls
import Derived.Lib.LaidIn
import Derived.Lib.LaidU8T
import Derived.Deep.DeepHandedRow
import Derived.ProofKit
import Derived.HandedShaped
import Derived.Shelf.Vars
import Derived.Lib.LaidTab
import Derived.Stop.LaidErr
import Derived.Stop.ErrReads
import Derived.Lib.SplitLaws
import Derived.Lib.ParseIntBTie
set_option linter.unusedVariables false
set_option linter.unusedSimpArgs false
namespace Go.Proofs.YtdlkpmohjhjmfaaGreatDoor
open Go Go.Va Go.Proofs
theorem acts_Good {n:Nat} (h3:300≤n) (hn2:n≤536870912) {e:Q} (he:QB n e):yay.f n e=some (goodQ e,()):=by
  by_cases hk:1≤e.1∧e.1≤22
  · obtain⟨k,w,b,y,i,bo,tg,l,q,d,r,g,nu,ns,af,pr,ma,fr,mx,u⟩:=e
    have:k=1∨k=2∨k=3∨k=4∨k=5∨k=6∨k=7∨k=8∨k=9∨k=10∨k=11∨k=12∨k=13∨k=14∨k=15∨k=16∨k=17∨k=18∨k=19∨k=20∨k=21∨k=22:=by
      obtain⟨h1,h2⟩:=hk
      dsimp only at h1 h2
      omega
    rcases this with h | h | h | h | h | h | h | h | h | h | h | h | h | h | h | h | h | h | h | h | h | h<;>subst h
    · exact good_1 h3 hn2 w b y i bo tg l q d r g nu ns af pr ma fr mx u he
    · exact good_2 h3 hn2 w b y i bo tg l q d r g nu ns af pr ma fr mx u he
    · exact good_3 h3 hn2 w b y i bo tg l q d r g nu ns af pr ma fr mx u he
    · exact good_4 h3 hn2 w b y i bo tg l q d r g nu ns af pr ma fr mx u he
    · exact good_5 h3 hn2 w b y i bo tg l q d r g nu ns af pr ma fr mx u he
    · exact good_6 h3 hn2 w b y i bo tg l q d r g nu ns af pr ma fr mx u he
    · exact good_7 h3 hn2 w b y i bo tg l q d r g nu ns af pr ma fr mx u he
    · exact good_8 h3 hn2 w b y i bo tg l q d r g nu ns af pr ma fr mx u he
    · exact good_9 h3 hn2 w b y i bo tg l q d r g nu ns af pr ma fr mx u he
    · exact good_10 h3 hn2 w b y i bo tg l q d r g nu ns af pr ma fr mx u he
    · exact good_11 h3 hn2 w b y i bo tg l q d r g nu ns af pr ma fr mx u he
    · exact good_12 h3 hn2 w b y i bo tg l q d r g nu ns af pr ma fr mx u he
    · exact good_13 h3 hn2 w b y i bo tg l q d r g nu ns af pr ma fr mx u he
    · exact good_14 h3 hn2 w b y i bo tg l q d r g nu ns af pr ma fr mx u he
    · exact good_15 h3 hn2 w b y i bo tg l q d r g nu ns af pr ma fr mx u he
    · exact good_16 h3 hn2 w b y i bo tg l q d r g nu ns af pr ma fr mx u he
    · exact good_17 h3 hn2 w b y i bo tg l q d r g nu ns af pr ma fr mx u he
    · exact good_18 h3 hn2 w b y i bo tg l q d r g nu ns af pr ma fr mx u he
    · exact good_19 h3 hn2 w b y i bo tg l q d r g nu ns af pr ma fr mx u he
    · exact good_20 h3 hn2 w b y i bo tg l q d r g nu ns af pr ma fr mx u he
    · exact good_21 h3 hn2 w b y i bo tg l q d r g nu ns af pr ma fr mx u he
    · exact good_22 h3 hn2 w b y i bo tg l q d r g nu ns af pr ma fr mx u he
  · have hz:goodQ e=false:=by
      unfold goodQ
      rw[show (decide (1≤e.1)&&decide (e.1≤22))=false by
        rw[← Bool.decide_and];exact decide_eq_false hk,Bool.false_and]
    have c1:(e.1==1)=false:=by rw[beq_eq_false_iff_ne];omega
    have c2:(e.1==2)=false:=by rw[beq_eq_false_iff_ne];omega
    have c3:(e.1==3)=false:=by rw[beq_eq_false_iff_ne];omega
    have c4:(e.1==4)=false:=by rw[beq_eq_false_iff_ne];omega
    have c5:(e.1==5)=false:=by rw[beq_eq_false_iff_ne];omega
    have c6:(e.1==6)=false:=by rw[beq_eq_false_iff_ne];omega
    have c7:(e.1==7)=false:=by rw[beq_eq_false_iff_ne];omega
    have c8:(e.1==8)=false:=by rw[beq_eq_false_iff_ne];omega
    have c9:(e.1==9)=false:=by rw[beq_eq_false_iff_ne];omega
    have c10:(e.1==10)=false:=by rw[beq_eq_false_iff_ne];omega
    have c11:(e.1==11)=false:=by rw[beq_eq_false_iff_ne];omega
    have c12:(e.1==12)=false:=by rw[beq_eq_false_iff_ne];omega
    have c13:(e.1==13)=false:=by rw[beq_eq_false_iff_ne];omega
    have c14:(e.1==14)=false:=by rw[beq_eq_false_iff_ne];omega
    have c15:(e.1==15)=false:=by rw[beq_eq_false_iff_ne];omega
    have c16:(e.1==16)=false:=by rw[beq_eq_false_iff_ne];omega
    have c17:(e.1==17)=false:=by rw[beq_eq_false_iff_ne];omega
    have c18:(e.1==18)=false:=by rw[beq_eq_false_iff_ne];omega
    have c19:(e.1==19)=false:=by rw[beq_eq_false_iff_ne];omega
    have c20:(e.1==20)=false:=by rw[beq_eq_false_iff_ne];omega
    have c21:(e.1==21)=false:=by rw[beq_eq_false_iff_ne];omega
    have c22:(e.1==22)=false:=by rw[beq_eq_false_iff_ne];omega
    have how:yab.f n (e,(true,()))=some ((e,(false,())),()):=by
      rw[yab.e0]
      simp only[yab.e1,yab.e2,yab.e3,yaP,c1,c2,c3,c4,c5,c6,c7,c8,c9,c10,c11,c12,c13,c14,c15,c16,c17,c18,c19,c20,c21,c22,bIf_t,bIf_f,bnd_s,s_may,Bool.and_false]
    have hw:=he.w
    rw[hz,yay.e0]
    simp only[yay.e1,how,yda (by omega) hw,ya2.e0,yaT h3,yaP,c21,c22,bnd_s,bIf_t,bIf_f,ycT]
def sameI (x y:Int):Bool:=x==y
def sameQ (a b:Q):Bool:=(a.1==b.1)&&(eqS a.2.1 b.2.1&&(eqS a.2.2.1 b.2.2.1&&(eqS a.2.2.2.1 b.2.2.2.1&&((a.2.2.2.2.1==b.2.2.2.2.1)&&(eqD yaK a.2.2.2.2.2.2.2.1 b.2.2.2.2.2.2.2.1&&((a.2.2.2.2.2.2.2.2.1==b.2.2.2.2.2.2.2.2.1)&&(eqD yaz a.2.2.2.2.2.2.2.2.2.1 b.2.2.2.2.2.2.2.2.2.1&&((a.2.2.2.2.2.2.2.2.2.2.2.2.1==b.2.2.2.2.2.2.2.2.2.2.2.2.1)&&(eqS a.2.2.2.2.2.2.2.2.2.2.2.2.2.2.1 b.2.2.2.2.2.2.2.2.2.2.2.2.2.2.1&&(eqS a.2.2.2.2.2.2.2.2.2.2.2.2.2.2.2.1 b.2.2.2.2.2.2.2.2.2.2.2.2.2.2.2.1&&(eqS a.2.2.2.2.2.2.2.2.2.2.2.2.2.2.2.2.1 b.2.2.2.2.2.2.2.2.2.2.2.2.2.2.2.2.1&&(eqD yaU a.2.2.2.2.2.2.2.2.2.2.2.2.2.2.2.2.2.1 b.2.2.2.2.2.2.2.2.2.2.2.2.2.2.2.2.2.1&&((a.2.2.2.2.2.2.2.2.2.2.2.2.2.2.2.2.2.2.1==b.2.2.2.2.2.2.2.2.2.2.2.2.2.2.2.2.2.2.1)&&(eqS (ybp a.2.2.2.2.2.1) (ybp b.2.2.2.2.2.1)&&(allB sameT a.2.2.2.2.2.2.1 b.2.2.2.2.2.2.1&&(allB sameR a.2.2.2.2.2.2.2.2.2.2.1 b.2.2.2.2.2.2.2.2.2.2.1&&(allB sameG a.2.2.2.2.2.2.2.2.2.2.2.1 b.2.2.2.2.2.2.2.2.2.2.2.1&&(allB sameI a.2.2.2.2.2.2.2.2.2.2.2.2.2.1 b.2.2.2.2.2.2.2.2.2.2.2.2.2.1))))))))))))))))))
theorem slices_Equal_int {n:Nat} (hn:n≤536870912) {a b:List Int} (hlen:a.length<n):ya4.f n a b=some (allB sameI a b,()):=by
  rw[ya4.e0,yaw,ne_len]
  by_cases h:a.length=b.length
  · have:=zip_loop (0:Int) sameI (λm k=>ya4.J1 n m (a,b,((a.length:Nat):Int),k,())) h
      (λm k hk=>by
        try dsimp only
        rw[ya4.e1,yaw,decide_eq_true (by omega),yau,yaO ⟨by omega,by omega⟩,yaO ⟨by omega,by omega⟩,Int.toNat_natCast,ybQ k (by omega),yaw,bne]
        unfold sameI
        generalize ((_:Int)==_)=z;cases z<;>rfl)
      (λm=>by
        try dsimp only
        rw[ya4.e1,yaw,decide_eq_false (by omega),yao,ya4.e2]) n 0 (by omega) (by omega)
    try dsimp only at this
    rw[show ((0:Nat):Int)=0 from rfl]at this
    rw[decide_eq_true h,Bool.not_true,yao,this];rfl
  · rw[decide_eq_false h,Bool.not_false,yau,yez a b h]
theorem wire_Same {n:Nat}(h3:300≤n)(hn2:n≤536870912){a b:Q}(ha:QB n a):yds.f n a b=some (sameQ a b,()):=by
  rw[yds.e0,yds.e1,yds.e2,ybg.e0,same48 hn2 ha.tg.1,entry_SameRules hn2 ha.r,slices_Equal_Grant hn2 ha.g,slices_Equal_int hn2 ha.ns]
  simp only[yaP,bnd_s,ycD,ycv,bne,Bool.not_not]
  rfl
abbrev asE (a:Q):E:=(0,(0,((⟨#[]⟩:ByteArray),((⟨#[]⟩:ByteArray),(0,(verZ,(lockZ,(a.2.2.2.2.2.2.1,((0,(0,())),(a.2.2.2.2.2.2.2.2.2.2.1,(a.2.2.2.2.2.2.2.2.2.2.2.1,(partZ,()))))))))))))
theorem asE_B {n:Nat}(h3:300≤n){a:Q}(ha:QB n a):EB n (asE a):=⟨by change 0<n;omega,by change 0<n;omega,Int.le_refl 0,VBz (by omega),ha.tg,ha.r,ha.g⟩
theorem asE_same (a b:Q):sameE (asE a) (asE b)=(allB sameT a.2.2.2.2.2.2.1 b.2.2.2.2.2.2.1&&(allB sameR a.2.2.2.2.2.2.2.2.2.2.1 b.2.2.2.2.2.2.2.2.2.2.1&&allB sameG a.2.2.2.2.2.2.2.2.2.2.2.1 b.2.2.2.2.2.2.2.2.2.2.2.1)):=by
  unfold sameE
  rw[ybO,ycS,ydv,partRefl,sameV_refl]
  simp only[beq_self_eq_true,Bool.true_and]
theorem ref26_Same {n:Nat} (h3:300≤n) (hn2:n≤536870912) {a b:Q} (ha:QB n a):ycn.f n a b=some (sameQ a b,()):=by
  have hlen:=ha.ns
  have h1 : ycn.J2 n (a,b,())=some (if a.2.2.2.2.2.2.2.2.2.2.2.2.2.1.length=b.2.2.2.2.2.2.2.2.2.2.2.2.2.1.length then allB sameI a.2.2.2.2.2.2.2.2.2.2.2.2.2.1 b.2.2.2.2.2.2.2.2.2.2.2.2.2.1 else true,())∨a.2.2.2.2.2.2.2.2.2.2.2.2.2.1.length≠b.2.2.2.2.2.2.2.2.2.2.2.2.2.1.length:=by
    by_cases h:a.2.2.2.2.2.2.2.2.2.2.2.2.2.1.length=b.2.2.2.2.2.2.2.2.2.2.2.2.2.1.length
    · left
      rw[if_pos h,ycn.e2]
      have:=zip_loop (0:Int) sameI (λm k=>ycn.J3 n m (k,a,b,())) h
        (λm k hk=>by
          try dsimp only
          rw[ycn.e3,yaw,decide_eq_true (by omega),yau,yaO ⟨by omega,by omega⟩,yaO ⟨by omega,by omega⟩,Int.toNat_natCast,ybQ k (by omega),yaw,bne]
          unfold sameI
          generalize ((_:Int)==_)=z;cases z<;>rfl)
        (λm=>by
          try dsimp only
          rw[ycn.e3,yaw,decide_eq_false (by omega),yao,ycn.e4]) n 0 (by omega) (by omega)
      try dsimp only at this
      rw[show ((0:Nat):Int)=0 from rfl,List.drop_zero,List.drop_zero]at this
      exact this
    · exact .inr h
  have h2:ycn.J1 n (a,b,())=some ((allB sameT a.2.2.2.2.2.2.1 b.2.2.2.2.2.2.1&&(allB sameR a.2.2.2.2.2.2.2.2.2.2.1 b.2.2.2.2.2.2.2.2.2.2.1&&allB sameG a.2.2.2.2.2.2.2.2.2.2.2.1 b.2.2.2.2.2.2.2.2.2.2.2.1))&&allB sameI a.2.2.2.2.2.2.2.2.2.2.2.2.2.1 b.2.2.2.2.2.2.2.2.2.2.2.2.2.1,()):=by
    rw[ycn.e1]
    have:=ref14_Same hn2 (b:=asE b) (asE_B h3 ha)
    rw[asE_same]at this
    change (bnd (ydk.f n (asE a) (asE b)) λu1=>bIf (!u1.1) (some (false,())) (bIf (hide _) (some (false,())) (ycn.J2 n (a,b,()))))=_
    rw[this,yaf,yaw,ne_len]
    try dsimp only
    by_cases h:a.2.2.2.2.2.2.2.2.2.2.2.2.2.1.length=b.2.2.2.2.2.2.2.2.2.2.2.2.2.1.length
    · rcases h1 with h1 | h1
      · rw[h1,if_pos h,decide_eq_true h,Bool.not_true,yao,ycv,Bool.not_not]
      · exact absurd h h1
    · rw[decide_eq_false h,Bool.not_false,yau,yez _ _ h,Bool.and_false,ycT]
  rw[ycn.e0,h2]
  simp only[yaP,bnd_s,ycD,ycv,bne,Bool.not_not]
  unfold sameQ
  generalize (a.1==b.1)=zk
  generalize eqS a.2.1 b.2.1=zw
  generalize eqS a.2.2.1 b.2.2.1=zb
  generalize eqS a.2.2.2.1 b.2.2.2.1=zy
  generalize (a.2.2.2.2.1==b.2.2.2.2.1)=zi
  generalize eqD yaK a.2.2.2.2.2.2.2.1 b.2.2.2.2.2.2.2.1=zl
  generalize (a.2.2.2.2.2.2.2.2.1==b.2.2.2.2.2.2.2.2.1)=zq
  generalize eqD yaz a.2.2.2.2.2.2.2.2.2.1 b.2.2.2.2.2.2.2.2.2.1=zd
  generalize (a.2.2.2.2.2.2.2.2.2.2.2.2.1==b.2.2.2.2.2.2.2.2.2.2.2.2.1)=znu
  generalize eqS a.2.2.2.2.2.2.2.2.2.2.2.2.2.2.1 b.2.2.2.2.2.2.2.2.2.2.2.2.2.2.1=zaf
  generalize eqS a.2.2.2.2.2.2.2.2.2.2.2.2.2.2.2.1 b.2.2.2.2.2.2.2.2.2.2.2.2.2.2.2.1=zpr
  generalize eqS a.2.2.2.2.2.2.2.2.2.2.2.2.2.2.2.2.1 b.2.2.2.2.2.2.2.2.2.2.2.2.2.2.2.2.1=zma
  generalize eqD yaU a.2.2.2.2.2.2.2.2.2.2.2.2.2.2.2.2.2.1 b.2.2.2.2.2.2.2.2.2.2.2.2.2.2.2.2.2.1=zfr
  generalize (a.2.2.2.2.2.2.2.2.2.2.2.2.2.2.2.2.2.2.1==b.2.2.2.2.2.2.2.2.2.2.2.2.2.2.2.2.2.2.1)=zmx
  generalize eqS (ybp a.2.2.2.2.2.1) (ybp b.2.2.2.2.2.1)=zbo
  generalize allB sameT a.2.2.2.2.2.2.1 b.2.2.2.2.2.2.1=ztg
  generalize allB sameR a.2.2.2.2.2.2.2.2.2.2.1 b.2.2.2.2.2.2.2.2.2.2.1=zr
  generalize allB sameG a.2.2.2.2.2.2.2.2.2.2.2.1 b.2.2.2.2.2.2.2.2.2.2.2.1=zg
  generalize allB sameI a.2.2.2.2.2.2.2.2.2.2.2.2.2.1 b.2.2.2.2.2.2.2.2.2.2.2.2.2.1=zns
  simp only[Bool.and_comm,Bool.and_left_comm,Bool.and_assoc]
end Go.Proofs.YtdlkpmohjhjmfaaGreatDoor

namespace Go.Proofs.YtdlkpmohjhjmfaaGreatDoor
open Go Go.Va Go.Proofs
def eP (e:Q):List Int:=
  if e.1=1∨e.1=3 then eDef e.2.2.2.2.2.2.2.2.2.1 else if e.1=4 then eRules e.2.2.2.2.2.2.2.2.2.2.1 else if e.1=5 then eGrants e.2.2.2.2.2.2.2.2.2.2.2.1 else if e.1=6 then eT e.2.2.2.1++(eT (ybp e.2.2.2.2.2.1)++(eTags e.2.2.2.2.2.2.1++(eLock e.2.2.2.2.2.2.2.1))) else if e.1=7∨e.1=8 then eT e.2.2.2.1++(eN e.2.2.2.2.1) else if e.1=9 then eT e.2.2.2.1 else if e.1=10 then eT e.2.2.2.1++(eN e.2.2.2.2.1++(eF e.2.2.2.2.2.2.2.2.1)) else if e.1=11 then eT e.2.2.2.1++(eN e.2.2.2.2.1++(eLock e.2.2.2.2.2.2.2.1++(eF e.2.2.2.2.2.2.2.2.1))) else if e.1=12 then eT e.2.2.2.1++(eN e.2.2.2.2.1++(eLock e.2.2.2.2.2.2.2.1)) else if e.1=13 then eT e.2.2.2.1++(eN e.2.2.2.2.1++(eTags e.2.2.2.2.2.2.1)) else if e.1=14 then eT e.2.2.2.2.2.2.2.2.2.2.2.2.2.2.2.1++(eT e.2.2.2.2.2.2.2.2.2.2.2.2.2.2.2.2.1++(eT e.2.2.2.2.2.2.2.2.2.2.2.2.2.2.1++(eW e.2.2.2.2.2.2.2.2.2.2.2.2.2.2.2.2.2.2.1))) else if e.1=15 then eT e.2.2.2.2.2.2.2.2.2.2.2.2.2.2.2.1++(eT e.2.2.2.2.2.2.2.2.2.2.2.2.2.2.2.2.2.1.2.1++(eN e.2.2.2.2.2.2.2.2.2.2.2.2.2.2.2.2.2.1.2.2.1++(eW e.2.2.2.2.2.2.2.2.2.2.2.2.2.2.2.2.2.2.1))) else if e.1=16 then eT e.2.2.2.1++(eTags e.2.2.2.2.2.2.1) else if e.1=17 then eN e.2.2.2.2.1++(eW e.2.2.2.2.2.2.2.2.2.2.2.2.1++(eT (ybp e.2.2.2.2.2.1))) else if e.1=18 then eN e.2.2.2.2.1++(eW ((e.2.2.2.2.2.2.2.2.2.2.2.2.2.1.length:Nat):Int)++(e.2.2.2.2.2.2.2.2.2.2.2.2.2.1.flatMap eI)) else if e.1=19 then eN e.2.2.2.2.1 else if e.1=20 then eT e.2.2.2.1++(eT e.2.2.2.2.2.2.2.2.2.2.2.2.2.2.2.2.2.1.1++(eT e.2.2.2.2.2.2.2.2.2.2.2.2.2.2.2.2.2.1.2.1++(eN e.2.2.2.2.2.2.2.2.2.2.2.2.2.2.2.2.2.1.2.2.1))) else []
structure QR (e:Q):Prop where
  i:U64 e.2.2.2.2.1
  l:I64 e.2.2.2.2.2.2.2.1.2.1
  fi:U64 e.2.2.2.2.2.2.2.2.2.2.2.2.2.2.2.2.2.1.2.2.1
  ns:∀ x∈e.2.2.2.2.2.2.2.2.2.2.2.2.2.1,I64 x
theorem eP_1 (w:ByteArray)(b:ByteArray)(y:ByteArray)(i:Int)(bo:List Int)(tg:List yak)(l:yan)(q:Bool)(d:yaj)(r:List yai)(g:List yag)(nu:Int)(ns:List Int)(af:ByteArray)(pr:ByteArray)(ma:ByteArray)(fr:yaq)(mx:Int)(u:Unit):eP (1,w,b,y,i,bo,tg,l,q,d,r,g,nu,ns,af,pr,ma,fr,mx,u)=eDef d:=rfl
theorem eP_2 (w:ByteArray)(b:ByteArray)(y:ByteArray)(i:Int)(bo:List Int)(tg:List yak)(l:yan)(q:Bool)(d:yaj)(r:List yai)(g:List yag)(nu:Int)(ns:List Int)(af:ByteArray)(pr:ByteArray)(ma:ByteArray)(fr:yaq)(mx:Int)(u:Unit):eP (2,w,b,y,i,bo,tg,l,q,d,r,g,nu,ns,af,pr,ma,fr,mx,u)=[]:=rfl
theorem eP_3 (w:ByteArray)(b:ByteArray)(y:ByteArray)(i:Int)(bo:List Int)(tg:List yak)(l:yan)(q:Bool)(d:yaj)(r:List yai)(g:List yag)(nu:Int)(ns:List Int)(af:ByteArray)(pr:ByteArray)(ma:ByteArray)(fr:yaq)(mx:Int)(u:Unit):eP (3,w,b,y,i,bo,tg,l,q,d,r,g,nu,ns,af,pr,ma,fr,mx,u)=eDef d:=rfl
theorem eP_4 (w:ByteArray)(b:ByteArray)(y:ByteArray)(i:Int)(bo:List Int)(tg:List yak)(l:yan)(q:Bool)(d:yaj)(r:List yai)(g:List yag)(nu:Int)(ns:List Int)(af:ByteArray)(pr:ByteArray)(ma:ByteArray)(fr:yaq)(mx:Int)(u:Unit):eP (4,w,b,y,i,bo,tg,l,q,d,r,g,nu,ns,af,pr,ma,fr,mx,u)=eRules r:=rfl
theorem eP_5 (w:ByteArray)(b:ByteArray)(y:ByteArray)(i:Int)(bo:List Int)(tg:List yak)(l:yan)(q:Bool)(d:yaj)(r:List yai)(g:List yag)(nu:Int)(ns:List Int)(af:ByteArray)(pr:ByteArray)(ma:ByteArray)(fr:yaq)(mx:Int)(u:Unit):eP (5,w,b,y,i,bo,tg,l,q,d,r,g,nu,ns,af,pr,ma,fr,mx,u)=eGrants g:=rfl
theorem eP_6 (w:ByteArray)(b:ByteArray)(y:ByteArray)(i:Int)(bo:List Int)(tg:List yak)(l:yan)(q:Bool)(d:yaj)(r:List yai)(g:List yag)(nu:Int)(ns:List Int)(af:ByteArray)(pr:ByteArray)(ma:ByteArray)(fr:yaq)(mx:Int)(u:Unit):eP (6,w,b,y,i,bo,tg,l,q,d,r,g,nu,ns,af,pr,ma,fr,mx,u)=eT y++(eT (ybp bo)++(eTags tg++(eLock l))):=rfl
theorem eP_7 (w:ByteArray)(b:ByteArray)(y:ByteArray)(i:Int)(bo:List Int)(tg:List yak)(l:yan)(q:Bool)(d:yaj)(r:List yai)(g:List yag)(nu:Int)(ns:List Int)(af:ByteArray)(pr:ByteArray)(ma:ByteArray)(fr:yaq)(mx:Int)(u:Unit):eP (7,w,b,y,i,bo,tg,l,q,d,r,g,nu,ns,af,pr,ma,fr,mx,u)=eT y++(eN i):=rfl
theorem eP_8 (w:ByteArray)(b:ByteArray)(y:ByteArray)(i:Int)(bo:List Int)(tg:List yak)(l:yan)(q:Bool)(d:yaj)(r:List yai)(g:List yag)(nu:Int)(ns:List Int)(af:ByteArray)(pr:ByteArray)(ma:ByteArray)(fr:yaq)(mx:Int)(u:Unit):eP (8,w,b,y,i,bo,tg,l,q,d,r,g,nu,ns,af,pr,ma,fr,mx,u)=eT y++(eN i):=rfl
theorem eP_9 (w:ByteArray)(b:ByteArray)(y:ByteArray)(i:Int)(bo:List Int)(tg:List yak)(l:yan)(q:Bool)(d:yaj)(r:List yai)(g:List yag)(nu:Int)(ns:List Int)(af:ByteArray)(pr:ByteArray)(ma:ByteArray)(fr:yaq)(mx:Int)(u:Unit):eP (9,w,b,y,i,bo,tg,l,q,d,r,g,nu,ns,af,pr,ma,fr,mx,u)=eT y:=rfl
theorem eP_10 (w:ByteArray)(b:ByteArray)(y:ByteArray)(i:Int)(bo:List Int)(tg:List yak)(l:yan)(q:Bool)(d:yaj)(r:List yai)(g:List yag)(nu:Int)(ns:List Int)(af:ByteArray)(pr:ByteArray)(ma:ByteArray)(fr:yaq)(mx:Int)(u:Unit):eP (10,w,b,y,i,bo,tg,l,q,d,r,g,nu,ns,af,pr,ma,fr,mx,u)=eT y++(eN i++(eF q)):=rfl
theorem eP_11 (w:ByteArray)(b:ByteArray)(y:ByteArray)(i:Int)(bo:List Int)(tg:List yak)(l:yan)(q:Bool)(d:yaj)(r:List yai)(g:List yag)(nu:Int)(ns:List Int)(af:ByteArray)(pr:ByteArray)(ma:ByteArray)(fr:yaq)(mx:Int)(u:Unit):eP (11,w,b,y,i,bo,tg,l,q,d,r,g,nu,ns,af,pr,ma,fr,mx,u)=eT y++(eN i++(eLock l++(eF q))):=rfl
theorem eP_12 (w:ByteArray)(b:ByteArray)(y:ByteArray)(i:Int)(bo:List Int)(tg:List yak)(l:yan)(q:Bool)(d:yaj)(r:List yai)(g:List yag)(nu:Int)(ns:List Int)(af:ByteArray)(pr:ByteArray)(ma:ByteArray)(fr:yaq)(mx:Int)(u:Unit):eP (12,w,b,y,i,bo,tg,l,q,d,r,g,nu,ns,af,pr,ma,fr,mx,u)=eT y++(eN i++(eLock l)):=rfl
theorem eP_13 (w:ByteArray)(b:ByteArray)(y:ByteArray)(i:Int)(bo:List Int)(tg:List yak)(l:yan)(q:Bool)(d:yaj)(r:List yai)(g:List yag)(nu:Int)(ns:List Int)(af:ByteArray)(pr:ByteArray)(ma:ByteArray)(fr:yaq)(mx:Int)(u:Unit):eP (13,w,b,y,i,bo,tg,l,q,d,r,g,nu,ns,af,pr,ma,fr,mx,u)=eT y++(eN i++(eTags tg)):=rfl
theorem eP_14 (w:ByteArray)(b:ByteArray)(y:ByteArray)(i:Int)(bo:List Int)(tg:List yak)(l:yan)(q:Bool)(d:yaj)(r:List yai)(g:List yag)(nu:Int)(ns:List Int)(af:ByteArray)(pr:ByteArray)(ma:ByteArray)(fr:yaq)(mx:Int)(u:Unit):eP (14,w,b,y,i,bo,tg,l,q,d,r,g,nu,ns,af,pr,ma,fr,mx,u)=eT pr++(eT ma++(eT af++(eW mx))):=rfl
theorem eP_15 (w:ByteArray)(b:ByteArray)(y:ByteArray)(i:Int)(bo:List Int)(tg:List yak)(l:yan)(q:Bool)(d:yaj)(r:List yai)(g:List yag)(nu:Int)(ns:List Int)(af:ByteArray)(pr:ByteArray)(ma:ByteArray)(fr:yaq)(mx:Int)(u:Unit):eP (15,w,b,y,i,bo,tg,l,q,d,r,g,nu,ns,af,pr,ma,fr,mx,u)=eT pr++(eT fr.2.1++(eN fr.2.2.1++(eW mx))):=rfl
theorem eP_16 (w:ByteArray)(b:ByteArray)(y:ByteArray)(i:Int)(bo:List Int)(tg:List yak)(l:yan)(q:Bool)(d:yaj)(r:List yai)(g:List yag)(nu:Int)(ns:List Int)(af:ByteArray)(pr:ByteArray)(ma:ByteArray)(fr:yaq)(mx:Int)(u:Unit):eP (16,w,b,y,i,bo,tg,l,q,d,r,g,nu,ns,af,pr,ma,fr,mx,u)=eT y++(eTags tg):=rfl
theorem eP_17 (w:ByteArray)(b:ByteArray)(y:ByteArray)(i:Int)(bo:List Int)(tg:List yak)(l:yan)(q:Bool)(d:yaj)(r:List yai)(g:List yag)(nu:Int)(ns:List Int)(af:ByteArray)(pr:ByteArray)(ma:ByteArray)(fr:yaq)(mx:Int)(u:Unit):eP (17,w,b,y,i,bo,tg,l,q,d,r,g,nu,ns,af,pr,ma,fr,mx,u)=eN i++(eW nu++(eT (ybp bo))):=rfl
theorem eP_18 (w:ByteArray)(b:ByteArray)(y:ByteArray)(i:Int)(bo:List Int)(tg:List yak)(l:yan)(q:Bool)(d:yaj)(r:List yai)(g:List yag)(nu:Int)(ns:List Int)(af:ByteArray)(pr:ByteArray)(ma:ByteArray)(fr:yaq)(mx:Int)(u:Unit):eP (18,w,b,y,i,bo,tg,l,q,d,r,g,nu,ns,af,pr,ma,fr,mx,u)=eN i++(eW ((ns.length:Nat):Int)++(ns.flatMap eI)):=rfl
theorem eP_19 (w:ByteArray)(b:ByteArray)(y:ByteArray)(i:Int)(bo:List Int)(tg:List yak)(l:yan)(q:Bool)(d:yaj)(r:List yai)(g:List yag)(nu:Int)(ns:List Int)(af:ByteArray)(pr:ByteArray)(ma:ByteArray)(fr:yaq)(mx:Int)(u:Unit):eP (19,w,b,y,i,bo,tg,l,q,d,r,g,nu,ns,af,pr,ma,fr,mx,u)=eN i:=rfl
theorem eP_20 (w:ByteArray)(b:ByteArray)(y:ByteArray)(i:Int)(bo:List Int)(tg:List yak)(l:yan)(q:Bool)(d:yaj)(r:List yai)(g:List yag)(nu:Int)(ns:List Int)(af:ByteArray)(pr:ByteArray)(ma:ByteArray)(fr:yaq)(mx:Int)(u:Unit):eP (20,w,b,y,i,bo,tg,l,q,d,r,g,nu,ns,af,pr,ma,fr,mx,u)=eT y++(eT fr.1++(eT fr.2.1++(eN fr.2.2.1))):=rfl
theorem eP_21 (w:ByteArray)(b:ByteArray)(y:ByteArray)(i:Int)(bo:List Int)(tg:List yak)(l:yan)(q:Bool)(d:yaj)(r:List yai)(g:List yag)(nu:Int)(ns:List Int)(af:ByteArray)(pr:ByteArray)(ma:ByteArray)(fr:yaq)(mx:Int)(u:Unit):eP (21,w,b,y,i,bo,tg,l,q,d,r,g,nu,ns,af,pr,ma,fr,mx,u)=[]:=rfl
theorem eP_22 (w:ByteArray)(b:ByteArray)(y:ByteArray)(i:Int)(bo:List Int)(tg:List yak)(l:yan)(q:Bool)(d:yaj)(r:List yai)(g:List yag)(nu:Int)(ns:List Int)(af:ByteArray)(pr:ByteArray)(ma:ByteArray)(fr:yaq)(mx:Int)(u:Unit):eP (22,w,b,y,i,bo,tg,l,q,d,r,g,nu,ns,af,pr,ma,fr,mx,u)=[]:=rfl
theorem wKey {n:Nat}(hn:300≤n)(w:List Int)(u:Unit){e:Q}(hi:U64 e.2.2.2.2.1)(h:w.length+((eT e.2.2.2.1).length+(eN e.2.2.2.2.1).length)≤70368744177664):yca.f n (w,u) e=some ((w++(eT e.2.2.2.1++eN e.2.2.2.2.1),()),()):=by
  rw[yca.e0]
  try dsimp only
  rw[wText hn _ () (by omega),yaf]
  try dsimp only
  rw[wNum hn _ () hi (by rw[List.length_append];omega),yaf]
  simp only[List.append_assoc]
theorem wf_1 {n:Nat}(hn:300≤n)(hn2:n≤536870912)(w0:List Int)(z:Unit)(w:ByteArray)(b:ByteArray)(y:ByteArray)(i:Int)(bo:List Int)(tg:List yak)(l:yan)(q:Bool)(d:yaj)(r:List yai)(g:List yag)(nu:Int)(ns:List Int)(af:ByteArray)(pr:ByteArray)(ma:ByteArray)(fr:yaq)(mx:Int)(u:Unit)(he:QB n (1,w,b,y,i,bo,tg,l,q,d,r,g,nu,ns,af,pr,ma,fr,mx,u))(hr:QR (1,w,b,y,i,bo,tg,l,q,d,r,g,nu,ns,af,pr,ma,fr,mx,u))(h:w0.length+(eP (1,w,b,y,i,bo,tg,l,q,d,r,g,nu,ns,af,pr,ma,fr,mx,u)).length≤70368744177664) :
    yad.f n (w0,z) (1,w,b,y,i,bo,tg,l,q,d,r,g,nu,ns,af,pr,ma,fr,mx,u)=some ((w0++eP (1,w,b,y,i,bo,tg,l,q,d,r,g,nu,ns,af,pr,ma,fr,mx,u),()),()):=by
  rw[eP_1]at h ⊢
  try simp only[List.length_append]at h
  rw[yad.e0]
  simp only[yad.e1,yad.e2,yaP,Int.reduceBEq,bIf_t,bIf_f]
  try dsimp only
  rw[wDef hn _ () (by first | omega | (simp only[List.length_append];omega)),yaf]
  try dsimp only
  try simp only[List.append_assoc]
theorem wf_2 {n:Nat}(hn:300≤n)(hn2:n≤536870912)(w0:List Int)(z:Unit)(w:ByteArray)(b:ByteArray)(y:ByteArray)(i:Int)(bo:List Int)(tg:List yak)(l:yan)(q:Bool)(d:yaj)(r:List yai)(g:List yag)(nu:Int)(ns:List Int)(af:ByteArray)(pr:ByteArray)(ma:ByteArray)(fr:yaq)(mx:Int)(u:Unit)(he:QB n (2,w,b,y,i,bo,tg,l,q,d,r,g,nu,ns,af,pr,ma,fr,mx,u))(hr:QR (2,w,b,y,i,bo,tg,l,q,d,r,g,nu,ns,af,pr,ma,fr,mx,u))(h:w0.length+(eP (2,w,b,y,i,bo,tg,l,q,d,r,g,nu,ns,af,pr,ma,fr,mx,u)).length≤70368744177664) :
    yad.f n (w0,z) (2,w,b,y,i,bo,tg,l,q,d,r,g,nu,ns,af,pr,ma,fr,mx,u)=some ((w0++eP (2,w,b,y,i,bo,tg,l,q,d,r,g,nu,ns,af,pr,ma,fr,mx,u),()),()):=by
  rw[eP_2]at h ⊢
  try simp only[List.length_append]at h
  rw[yad.e0]
  simp only[yad.e1,yad.e2,yaP,Int.reduceBEq,bIf_t,bIf_f]
  try dsimp only
  try rw[List.append_nil]
theorem wf_3 {n:Nat}(hn:300≤n)(hn2:n≤536870912)(w0:List Int)(z:Unit)(w:ByteArray)(b:ByteArray)(y:ByteArray)(i:Int)(bo:List Int)(tg:List yak)(l:yan)(q:Bool)(d:yaj)(r:List yai)(g:List yag)(nu:Int)(ns:List Int)(af:ByteArray)(pr:ByteArray)(ma:ByteArray)(fr:yaq)(mx:Int)(u:Unit)(he:QB n (3,w,b,y,i,bo,tg,l,q,d,r,g,nu,ns,af,pr,ma,fr,mx,u))(hr:QR (3,w,b,y,i,bo,tg,l,q,d,r,g,nu,ns,af,pr,ma,fr,mx,u))(h:w0.length+(eP (3,w,b,y,i,bo,tg,l,q,d,r,g,nu,ns,af,pr,ma,fr,mx,u)).length≤70368744177664) :
    yad.f n (w0,z) (3,w,b,y,i,bo,tg,l,q,d,r,g,nu,ns,af,pr,ma,fr,mx,u)=some ((w0++eP (3,w,b,y,i,bo,tg,l,q,d,r,g,nu,ns,af,pr,ma,fr,mx,u),()),()):=by
  rw[eP_3]at h ⊢
  try simp only[List.length_append]at h
  rw[yad.e0]
  simp only[yad.e1,yad.e2,yaP,Int.reduceBEq,bIf_t,bIf_f]
  try dsimp only
  rw[wDef hn _ () (by first | omega | (simp only[List.length_append];omega)),yaf]
  try dsimp only
  try simp only[List.append_assoc]
theorem wf_4 {n:Nat}(hn:300≤n)(hn2:n≤536870912)(w0:List Int)(z:Unit)(w:ByteArray)(b:ByteArray)(y:ByteArray)(i:Int)(bo:List Int)(tg:List yak)(l:yan)(q:Bool)(d:yaj)(r:List yai)(g:List yag)(nu:Int)(ns:List Int)(af:ByteArray)(pr:ByteArray)(ma:ByteArray)(fr:yaq)(mx:Int)(u:Unit)(he:QB n (4,w,b,y,i,bo,tg,l,q,d,r,g,nu,ns,af,pr,ma,fr,mx,u))(hr:QR (4,w,b,y,i,bo,tg,l,q,d,r,g,nu,ns,af,pr,ma,fr,mx,u))(h:w0.length+(eP (4,w,b,y,i,bo,tg,l,q,d,r,g,nu,ns,af,pr,ma,fr,mx,u)).length≤70368744177664) :
    yad.f n (w0,z) (4,w,b,y,i,bo,tg,l,q,d,r,g,nu,ns,af,pr,ma,fr,mx,u)=some ((w0++eP (4,w,b,y,i,bo,tg,l,q,d,r,g,nu,ns,af,pr,ma,fr,mx,u),()),()):=by
  rw[eP_4]at h ⊢
  try simp only[List.length_append]at h
  rw[yad.e0]
  simp only[yad.e1,yad.e2,yaP,Int.reduceBEq,bIf_t,bIf_f]
  try dsimp only
  rw[wRules hn _ () he.r hn2 (by first | omega | (simp only[List.length_append];omega)),yaf]
  try dsimp only
  try simp only[List.append_assoc]
theorem wf_5 {n:Nat}(hn:300≤n)(hn2:n≤536870912)(w0:List Int)(z:Unit)(w:ByteArray)(b:ByteArray)(y:ByteArray)(i:Int)(bo:List Int)(tg:List yak)(l:yan)(q:Bool)(d:yaj)(r:List yai)(g:List yag)(nu:Int)(ns:List Int)(af:ByteArray)(pr:ByteArray)(ma:ByteArray)(fr:yaq)(mx:Int)(u:Unit)(he:QB n (5,w,b,y,i,bo,tg,l,q,d,r,g,nu,ns,af,pr,ma,fr,mx,u))(hr:QR (5,w,b,y,i,bo,tg,l,q,d,r,g,nu,ns,af,pr,ma,fr,mx,u))(h:w0.length+(eP (5,w,b,y,i,bo,tg,l,q,d,r,g,nu,ns,af,pr,ma,fr,mx,u)).length≤70368744177664) :
    yad.f n (w0,z) (5,w,b,y,i,bo,tg,l,q,d,r,g,nu,ns,af,pr,ma,fr,mx,u)=some ((w0++eP (5,w,b,y,i,bo,tg,l,q,d,r,g,nu,ns,af,pr,ma,fr,mx,u),()),()):=by
  rw[eP_5]at h ⊢
  try simp only[List.length_append]at h
  rw[yad.e0]
  simp only[yad.e1,yad.e2,yaP,Int.reduceBEq,bIf_t,bIf_f]
  try dsimp only
  rw[wGrants hn _ () he.g hn2 (by first | omega | (simp only[List.length_append];omega)),yaf]
  try dsimp only
  try simp only[List.append_assoc]
theorem wf_6 {n:Nat}(hn:300≤n)(hn2:n≤536870912)(w0:List Int)(z:Unit)(w:ByteArray)(b:ByteArray)(y:ByteArray)(i:Int)(bo:List Int)(tg:List yak)(l:yan)(q:Bool)(d:yaj)(r:List yai)(g:List yag)(nu:Int)(ns:List Int)(af:ByteArray)(pr:ByteArray)(ma:ByteArray)(fr:yaq)(mx:Int)(u:Unit)(he:QB n (6,w,b,y,i,bo,tg,l,q,d,r,g,nu,ns,af,pr,ma,fr,mx,u))(hr:QR (6,w,b,y,i,bo,tg,l,q,d,r,g,nu,ns,af,pr,ma,fr,mx,u))(h:w0.length+(eP (6,w,b,y,i,bo,tg,l,q,d,r,g,nu,ns,af,pr,ma,fr,mx,u)).length≤70368744177664) :
    yad.f n (w0,z) (6,w,b,y,i,bo,tg,l,q,d,r,g,nu,ns,af,pr,ma,fr,mx,u)=some ((w0++eP (6,w,b,y,i,bo,tg,l,q,d,r,g,nu,ns,af,pr,ma,fr,mx,u),()),()):=by
  rw[eP_6]at h ⊢
  try simp only[List.length_append]at h
  rw[yad.e0]
  simp only[yad.e1,yad.e2,yaP,Int.reduceBEq,bIf_t,bIf_f]
  try dsimp only
  rw[wText hn _ () (by first | omega | (simp only[List.length_append];omega)),yaf]
  try dsimp only
  rw[wText hn _ () (by first | omega | (simp only[List.length_append];omega)),yaf]
  try dsimp only
  rw[wTags hn _ () he.tg.1 hn2 (by first | omega | (simp only[List.length_append];omega)),yaf]
  try dsimp only
  rw[wLock hn _ () hr.l (by first | omega | (simp only[List.length_append];omega)),yaf]
  try dsimp only
  try simp only[List.append_assoc]
theorem wf_7 {n:Nat}(hn:300≤n)(hn2:n≤536870912)(w0:List Int)(z:Unit)(w:ByteArray)(b:ByteArray)(y:ByteArray)(i:Int)(bo:List Int)(tg:List yak)(l:yan)(q:Bool)(d:yaj)(r:List yai)(g:List yag)(nu:Int)(ns:List Int)(af:ByteArray)(pr:ByteArray)(ma:ByteArray)(fr:yaq)(mx:Int)(u:Unit)(he:QB n (7,w,b,y,i,bo,tg,l,q,d,r,g,nu,ns,af,pr,ma,fr,mx,u))(hr:QR (7,w,b,y,i,bo,tg,l,q,d,r,g,nu,ns,af,pr,ma,fr,mx,u))(h:w0.length+(eP (7,w,b,y,i,bo,tg,l,q,d,r,g,nu,ns,af,pr,ma,fr,mx,u)).length≤70368744177664) :
    yad.f n (w0,z) (7,w,b,y,i,bo,tg,l,q,d,r,g,nu,ns,af,pr,ma,fr,mx,u)=some ((w0++eP (7,w,b,y,i,bo,tg,l,q,d,r,g,nu,ns,af,pr,ma,fr,mx,u),()),()):=by
  rw[eP_7]at h ⊢
  try simp only[List.length_append]at h
  rw[yad.e0]
  simp only[yad.e1,yad.e2,yaP,Int.reduceBEq,bIf_t,bIf_f]
  try dsimp only
  rw[wKey hn _ () (e:=(7,w,b,y,i,bo,tg,l,q,d,r,g,nu,ns,af,pr,ma,fr,mx,u)) hr.i (by first | omega | (simp only[List.length_append];omega)),yaf]
  try dsimp only
  try simp only[List.append_assoc]
theorem wf_8 {n:Nat}(hn:300≤n)(hn2:n≤536870912)(w0:List Int)(z:Unit)(w:ByteArray)(b:ByteArray)(y:ByteArray)(i:Int)(bo:List Int)(tg:List yak)(l:yan)(q:Bool)(d:yaj)(r:List yai)(g:List yag)(nu:Int)(ns:List Int)(af:ByteArray)(pr:ByteArray)(ma:ByteArray)(fr:yaq)(mx:Int)(u:Unit)(he:QB n (8,w,b,y,i,bo,tg,l,q,d,r,g,nu,ns,af,pr,ma,fr,mx,u))(hr:QR (8,w,b,y,i,bo,tg,l,q,d,r,g,nu,ns,af,pr,ma,fr,mx,u))(h:w0.length+(eP (8,w,b,y,i,bo,tg,l,q,d,r,g,nu,ns,af,pr,ma,fr,mx,u)).length≤70368744177664) :
    yad.f n (w0,z) (8,w,b,y,i,bo,tg,l,q,d,r,g,nu,ns,af,pr,ma,fr,mx,u)=some ((w0++eP (8,w,b,y,i,bo,tg,l,q,d,r,g,nu,ns,af,pr,ma,fr,mx,u),()),()):=by
  rw[eP_8]at h ⊢
  try simp only[List.length_append]at h
  rw[yad.e0]
  simp only[yad.e1,yad.e2,yaP,Int.reduceBEq,bIf_t,bIf_f]
  try dsimp only
  rw[wKey hn _ () (e:=(8,w,b,y,i,bo,tg,l,q,d,r,g,nu,ns,af,pr,ma,fr,mx,u)) hr.i (by first | omega | (simp only[List.length_append];omega)),yaf]
  try dsimp only
  try simp only[List.append_assoc]
theorem wf_9 {n:Nat}(hn:300≤n)(hn2:n≤536870912)(w0:List Int)(z:Unit)(w:ByteArray)(b:ByteArray)(y:ByteArray)(i:Int)(bo:List Int)(tg:List yak)(l:yan)(q:Bool)(d:yaj)(r:List yai)(g:List yag)(nu:Int)(ns:List Int)(af:ByteArray)(pr:ByteArray)(ma:ByteArray)(fr:yaq)(mx:Int)(u:Unit)(he:QB n (9,w,b,y,i,bo,tg,l,q,d,r,g,nu,ns,af,pr,ma,fr,mx,u))(hr:QR (9,w,b,y,i,bo,tg,l,q,d,r,g,nu,ns,af,pr,ma,fr,mx,u))(h:w0.length+(eP (9,w,b,y,i,bo,tg,l,q,d,r,g,nu,ns,af,pr,ma,fr,mx,u)).length≤70368744177664) :
    yad.f n (w0,z) (9,w,b,y,i,bo,tg,l,q,d,r,g,nu,ns,af,pr,ma,fr,mx,u)=some ((w0++eP (9,w,b,y,i,bo,tg,l,q,d,r,g,nu,ns,af,pr,ma,fr,mx,u),()),()):=by
  rw[eP_9]at h ⊢
  try simp only[List.length_append]at h
  rw[yad.e0]
  simp only[yad.e1,yad.e2,yaP,Int.reduceBEq,bIf_t,bIf_f]
  try dsimp only
  rw[wText hn _ () (by first | omega | (simp only[List.length_append];omega)),yaf]
  try dsimp only
  try simp only[List.append_assoc]
theorem wf_10 {n:Nat}(hn:300≤n)(hn2:n≤536870912)(w0:List Int)(z:Unit)(w:ByteArray)(b:ByteArray)(y:ByteArray)(i:Int)(bo:List Int)(tg:List yak)(l:yan)(q:Bool)(d:yaj)(r:List yai)(g:List yag)(nu:Int)(ns:List Int)(af:ByteArray)(pr:ByteArray)(ma:ByteArray)(fr:yaq)(mx:Int)(u:Unit)(he:QB n (10,w,b,y,i,bo,tg,l,q,d,r,g,nu,ns,af,pr,ma,fr,mx,u))(hr:QR (10,w,b,y,i,bo,tg,l,q,d,r,g,nu,ns,af,pr,ma,fr,mx,u))(h:w0.length+(eP (10,w,b,y,i,bo,tg,l,q,d,r,g,nu,ns,af,pr,ma,fr,mx,u)).length≤70368744177664) :
    yad.f n (w0,z) (10,w,b,y,i,bo,tg,l,q,d,r,g,nu,ns,af,pr,ma,fr,mx,u)=some ((w0++eP (10,w,b,y,i,bo,tg,l,q,d,r,g,nu,ns,af,pr,ma,fr,mx,u),()),()):=by
  rw[eP_10]at h ⊢
  try simp only[List.length_append]at h
  rw[yad.e0]
  simp only[yad.e1,yad.e2,yaP,Int.reduceBEq,bIf_t,bIf_f]
  try dsimp only
  rw[wKey hn _ () (e:=(10,w,b,y,i,bo,tg,l,q,d,r,g,nu,ns,af,pr,ma,fr,mx,u)) hr.i (by first | omega | (simp only[List.length_append];omega)),yaf]
  try dsimp only
  rw[wFlag _ () (by first | omega | (simp only[List.length_append];omega)),yaf]
  try dsimp only
  try simp only[List.append_assoc]
theorem wf_11 {n:Nat}(hn:300≤n)(hn2:n≤536870912)(w0:List Int)(z:Unit)(w:ByteArray)(b:ByteArray)(y:ByteArray)(i:Int)(bo:List Int)(tg:List yak)(l:yan)(q:Bool)(d:yaj)(r:List yai)(g:List yag)(nu:Int)(ns:List Int)(af:ByteArray)(pr:ByteArray)(ma:ByteArray)(fr:yaq)(mx:Int)(u:Unit)(he:QB n (11,w,b,y,i,bo,tg,l,q,d,r,g,nu,ns,af,pr,ma,fr,mx,u))(hr:QR (11,w,b,y,i,bo,tg,l,q,d,r,g,nu,ns,af,pr,ma,fr,mx,u))(h:w0.length+(eP (11,w,b,y,i,bo,tg,l,q,d,r,g,nu,ns,af,pr,ma,fr,mx,u)).length≤70368744177664) :
    yad.f n (w0,z) (11,w,b,y,i,bo,tg,l,q,d,r,g,nu,ns,af,pr,ma,fr,mx,u)=some ((w0++eP (11,w,b,y,i,bo,tg,l,q,d,r,g,nu,ns,af,pr,ma,fr,mx,u),()),()):=by
  rw[eP_11]at h ⊢
  try simp only[List.length_append]at h
  rw[yad.e0]
  simp only[yad.e1,yad.e2,yaP,Int.reduceBEq,bIf_t,bIf_f]
  try dsimp only
  rw[wKey hn _ () (e:=(11,w,b,y,i,bo,tg,l,q,d,r,g,nu,ns,af,pr,ma,fr,mx,u)) hr.i (by first | omega | (simp only[List.length_append];omega)),yaf]
  try dsimp only
  rw[wLock hn _ () hr.l (by first | omega | (simp only[List.length_append];omega)),yaf]
  try dsimp only
  rw[wFlag _ () (by first | omega | (simp only[List.length_append];omega)),yaf]
  try dsimp only
  try simp only[List.append_assoc]
theorem wf_12 {n:Nat}(hn:300≤n)(hn2:n≤536870912)(w0:List Int)(z:Unit)(w:ByteArray)(b:ByteArray)(y:ByteArray)(i:Int)(bo:List Int)(tg:List yak)(l:yan)(q:Bool)(d:yaj)(r:List yai)(g:List yag)(nu:Int)(ns:List Int)(af:ByteArray)(pr:ByteArray)(ma:ByteArray)(fr:yaq)(mx:Int)(u:Unit)(he:QB n (12,w,b,y,i,bo,tg,l,q,d,r,g,nu,ns,af,pr,ma,fr,mx,u))(hr:QR (12,w,b,y,i,bo,tg,l,q,d,r,g,nu,ns,af,pr,ma,fr,mx,u))(h:w0.length+(eP (12,w,b,y,i,bo,tg,l,q,d,r,g,nu,ns,af,pr,ma,fr,mx,u)).length≤70368744177664) :
    yad.f n (w0,z) (12,w,b,y,i,bo,tg,l,q,d,r,g,nu,ns,af,pr,ma,fr,mx,u)=some ((w0++eP (12,w,b,y,i,bo,tg,l,q,d,r,g,nu,ns,af,pr,ma,fr,mx,u),()),()):=by
  rw[eP_12]at h ⊢
  try simp only[List.length_append]at h
  rw[yad.e0]
  simp only[yad.e1,yad.e2,yaP,Int.reduceBEq,bIf_t,bIf_f]
  try dsimp only
  rw[wKey hn _ () (e:=(12,w,b,y,i,bo,tg,l,q,d,r,g,nu,ns,af,pr,ma,fr,mx,u)) hr.i (by first | omega | (simp only[List.length_append];omega)),yaf]
  try dsimp only
  rw[wLock hn _ () hr.l (by first | omega | (simp only[List.length_append];omega)),yaf]
  try dsimp only
  try simp only[List.append_assoc]
theorem wf_13 {n:Nat}(hn:300≤n)(hn2:n≤536870912)(w0:List Int)(z:Unit)(w:ByteArray)(b:ByteArray)(y:ByteArray)(i:Int)(bo:List Int)(tg:List yak)(l:yan)(q:Bool)(d:yaj)(r:List yai)(g:List yag)(nu:Int)(ns:List Int)(af:ByteArray)(pr:ByteArray)(ma:ByteArray)(fr:yaq)(mx:Int)(u:Unit)(he:QB n (13,w,b,y,i,bo,tg,l,q,d,r,g,nu,ns,af,pr,ma,fr,mx,u))(hr:QR (13,w,b,y,i,bo,tg,l,q,d,r,g,nu,ns,af,pr,ma,fr,mx,u))(h:w0.length+(eP (13,w,b,y,i,bo,tg,l,q,d,r,g,nu,ns,af,pr,ma,fr,mx,u)).length≤70368744177664) :
    yad.f n (w0,z) (13,w,b,y,i,bo,tg,l,q,d,r,g,nu,ns,af,pr,ma,fr,mx,u)=some ((w0++eP (13,w,b,y,i,bo,tg,l,q,d,r,g,nu,ns,af,pr,ma,fr,mx,u),()),()):=by
  rw[eP_13]at h ⊢
  try simp only[List.length_append]at h
  rw[yad.e0]
  simp only[yad.e1,yad.e2,yaP,Int.reduceBEq,bIf_t,bIf_f]
  try dsimp only
  rw[wKey hn _ () (e:=(13,w,b,y,i,bo,tg,l,q,d,r,g,nu,ns,af,pr,ma,fr,mx,u)) hr.i (by first | omega | (simp only[List.length_append];omega)),yaf]
  try dsimp only
  rw[wTags hn _ () he.tg.1 hn2 (by first | omega | (simp only[List.length_append];omega)),yaf]
  try dsimp only
  try simp only[List.append_assoc]
theorem wf_14 {n:Nat}(hn:300≤n)(hn2:n≤536870912)(w0:List Int)(z:Unit)(w:ByteArray)(b:ByteArray)(y:ByteArray)(i:Int)(bo:List Int)(tg:List yak)(l:yan)(q:Bool)(d:yaj)(r:List yai)(g:List yag)(nu:Int)(ns:List Int)(af:ByteArray)(pr:ByteArray)(ma:ByteArray)(fr:yaq)(mx:Int)(u:Unit)(he:QB n (14,w,b,y,i,bo,tg,l,q,d,r,g,nu,ns,af,pr,ma,fr,mx,u))(hr:QR (14,w,b,y,i,bo,tg,l,q,d,r,g,nu,ns,af,pr,ma,fr,mx,u))(h:w0.length+(eP (14,w,b,y,i,bo,tg,l,q,d,r,g,nu,ns,af,pr,ma,fr,mx,u)).length≤70368744177664) :
    yad.f n (w0,z) (14,w,b,y,i,bo,tg,l,q,d,r,g,nu,ns,af,pr,ma,fr,mx,u)=some ((w0++eP (14,w,b,y,i,bo,tg,l,q,d,r,g,nu,ns,af,pr,ma,fr,mx,u),()),()):=by
  rw[eP_14]at h ⊢
  try simp only[List.length_append]at h
  rw[yad.e0]
  simp only[yad.e1,yad.e2,yaP,Int.reduceBEq,bIf_t,bIf_f]
  try dsimp only
  rw[wText hn _ () (by first | omega | (simp only[List.length_append];omega)),yaf]
  try dsimp only
  rw[wText hn _ () (by first | omega | (simp only[List.length_append];omega)),yaf]
  try dsimp only
  rw[wText hn _ () (by first | omega | (simp only[List.length_append];omega)),yaf]
  try dsimp only
  rw[wW hn _ () (by first | omega | (simp only[List.length_append];omega)),yaf]
  try dsimp only
  try simp only[List.append_assoc]
theorem wf_15 {n:Nat}(hn:300≤n)(hn2:n≤536870912)(w0:List Int)(z:Unit)(w:ByteArray)(b:ByteArray)(y:ByteArray)(i:Int)(bo:List Int)(tg:List yak)(l:yan)(q:Bool)(d:yaj)(r:List yai)(g:List yag)(nu:Int)(ns:List Int)(af:ByteArray)(pr:ByteArray)(ma:ByteArray)(fr:yaq)(mx:Int)(u:Unit)(he:QB n (15,w,b,y,i,bo,tg,l,q,d,r,g,nu,ns,af,pr,ma,fr,mx,u))(hr:QR (15,w,b,y,i,bo,tg,l,q,d,r,g,nu,ns,af,pr,ma,fr,mx,u))(h:w0.length+(eP (15,w,b,y,i,bo,tg,l,q,d,r,g,nu,ns,af,pr,ma,fr,mx,u)).length≤70368744177664) :
    yad.f n (w0,z) (15,w,b,y,i,bo,tg,l,q,d,r,g,nu,ns,af,pr,ma,fr,mx,u)=some ((w0++eP (15,w,b,y,i,bo,tg,l,q,d,r,g,nu,ns,af,pr,ma,fr,mx,u),()),()):=by
  rw[eP_15]at h ⊢
  try simp only[List.length_append]at h
  rw[yad.e0]
  simp only[yad.e1,yad.e2,yaP,Int.reduceBEq,bIf_t,bIf_f]
  try dsimp only
  rw[wText hn _ () (by first | omega | (simp only[List.length_append];omega)),yaf]
  try dsimp only
  rw[wText hn _ () (by first | omega | (simp only[List.length_append];omega)),yaf]
  try dsimp only
  rw[wNum hn _ () hr.fi (by first | omega | (simp only[List.length_append];omega)),yaf]
  try dsimp only
  rw[wW hn _ () (by first | omega | (simp only[List.length_append];omega)),yaf]
  try dsimp only
  try simp only[List.append_assoc]
theorem wf_16 {n:Nat}(hn:300≤n)(hn2:n≤536870912)(w0:List Int)(z:Unit)(w:ByteArray)(b:ByteArray)(y:ByteArray)(i:Int)(bo:List Int)(tg:List yak)(l:yan)(q:Bool)(d:yaj)(r:List yai)(g:List yag)(nu:Int)(ns:List Int)(af:ByteArray)(pr:ByteArray)(ma:ByteArray)(fr:yaq)(mx:Int)(u:Unit)(he:QB n (16,w,b,y,i,bo,tg,l,q,d,r,g,nu,ns,af,pr,ma,fr,mx,u))(hr:QR (16,w,b,y,i,bo,tg,l,q,d,r,g,nu,ns,af,pr,ma,fr,mx,u))(h:w0.length+(eP (16,w,b,y,i,bo,tg,l,q,d,r,g,nu,ns,af,pr,ma,fr,mx,u)).length≤70368744177664) :
    yad.f n (w0,z) (16,w,b,y,i,bo,tg,l,q,d,r,g,nu,ns,af,pr,ma,fr,mx,u)=some ((w0++eP (16,w,b,y,i,bo,tg,l,q,d,r,g,nu,ns,af,pr,ma,fr,mx,u),()),()):=by
  rw[eP_16]at h ⊢
  try simp only[List.length_append]at h
  rw[yad.e0]
  simp only[yad.e1,yad.e2,yaP,Int.reduceBEq,bIf_t,bIf_f]
  try dsimp only
  rw[wText hn _ () (by first | omega | (simp only[List.length_append];omega)),yaf]
  try dsimp only
  rw[wTags hn _ () he.tg.1 hn2 (by first | omega | (simp only[List.length_append];omega)),yaf]
  try dsimp only
  try simp only[List.append_assoc]
theorem wf_17 {n:Nat}(hn:300≤n)(hn2:n≤536870912)(w0:List Int)(z:Unit)(w:ByteArray)(b:ByteArray)(y:ByteArray)(i:Int)(bo:List Int)(tg:List yak)(l:yan)(q:Bool)(d:yaj)(r:List yai)(g:List yag)(nu:Int)(ns:List Int)(af:ByteArray)(pr:ByteArray)(ma:ByteArray)(fr:yaq)(mx:Int)(u:Unit)(he:QB n (17,w,b,y,i,bo,tg,l,q,d,r,g,nu,ns,af,pr,ma,fr,mx,u))(hr:QR (17,w,b,y,i,bo,tg,l,q,d,r,g,nu,ns,af,pr,ma,fr,mx,u))(h:w0.length+(eP (17,w,b,y,i,bo,tg,l,q,d,r,g,nu,ns,af,pr,ma,fr,mx,u)).length≤70368744177664) :
    yad.f n (w0,z) (17,w,b,y,i,bo,tg,l,q,d,r,g,nu,ns,af,pr,ma,fr,mx,u)=some ((w0++eP (17,w,b,y,i,bo,tg,l,q,d,r,g,nu,ns,af,pr,ma,fr,mx,u),()),()):=by
  rw[eP_17]at h ⊢
  try simp only[List.length_append]at h
  rw[yad.e0]
  simp only[yad.e1,yad.e2,yaP,Int.reduceBEq,bIf_t,bIf_f]
  try dsimp only
  rw[wNum hn _ () hr.i (by first | omega | (simp only[List.length_append];omega)),yaf]
  try dsimp only
  rw[wW hn _ () (by first | omega | (simp only[List.length_append];omega)),yaf]
  try dsimp only
  rw[wText hn _ () (by first | omega | (simp only[List.length_append];omega)),yaf]
  try dsimp only
  try simp only[List.append_assoc]
theorem wf_18 {n:Nat}(hn:300≤n)(hn2:n≤536870912)(w0:List Int)(z:Unit)(w:ByteArray)(b:ByteArray)(y:ByteArray)(i:Int)(bo:List Int)(tg:List yak)(l:yan)(q:Bool)(d:yaj)(r:List yai)(g:List yag)(nu:Int)(ns:List Int)(af:ByteArray)(pr:ByteArray)(ma:ByteArray)(fr:yaq)(mx:Int)(u:Unit)(he:QB n (18,w,b,y,i,bo,tg,l,q,d,r,g,nu,ns,af,pr,ma,fr,mx,u))(hr:QR (18,w,b,y,i,bo,tg,l,q,d,r,g,nu,ns,af,pr,ma,fr,mx,u))(h:w0.length+(eP (18,w,b,y,i,bo,tg,l,q,d,r,g,nu,ns,af,pr,ma,fr,mx,u)).length≤70368744177664) :
    yad.f n (w0,z) (18,w,b,y,i,bo,tg,l,q,d,r,g,nu,ns,af,pr,ma,fr,mx,u)=some ((w0++eP (18,w,b,y,i,bo,tg,l,q,d,r,g,nu,ns,af,pr,ma,fr,mx,u),()),()):=by
  rw[eP_18]at h ⊢
  try simp only[List.length_append]at h
  rw[yad.e0]
  simp only[yad.e1,yad.e2,yaP,Int.reduceBEq,bIf_t,bIf_f]
  try dsimp only
  rw[wNum hn _ () hr.i (by first | omega | (simp only[List.length_append];omega)),yaf]
  try dsimp only
  rw[wW hn _ () (by first | omega | (simp only[List.length_append];omega)),yaf]
  try dsimp only
  have hlen:ns.length<n:=he.ns
  have:=app_loop (l:=ns) (0:Int) eI 70368744177664 (λm k L=>yad.J3 n m (ns,((ns.length:Nat):Int),k,(((),()),()),(L,()),())) (λL=>some ((L,()),()))
    (λm k L hk hL=>by
      have hx:I64 (ns.getD k 0):=hr.ns _ (ydS (d:=0) hk)
      try dsimp only
      rw[yad.e3,yaw,decide_eq_true (by omega),yau,yaO ⟨by omega,by omega⟩,Int.toNat_natCast,ybQ k (by omega)]
      try dsimp only
      rw[wInt hn _ () hx (by omega),yaf])
    (λm L hL=>by
      try dsimp only
      rw[yad.e3,yaw,decide_eq_false (by omega),yao]) n 0 _ (by omega) (by omega) (show ((w0++eN i)++eW ((ns.length:Nat):Int)).length+((ns.drop 0).flatMap eI).length≤70368744177664 by rw[List.drop_zero];simp only[List.length_append];omega)
  try dsimp only at this
  rw[show ((0:Nat):Int)=0 from rfl,List.drop_zero]at this
  rw[this]
  try simp only[List.append_assoc]
theorem wf_19 {n:Nat}(hn:300≤n)(hn2:n≤536870912)(w0:List Int)(z:Unit)(w:ByteArray)(b:ByteArray)(y:ByteArray)(i:Int)(bo:List Int)(tg:List yak)(l:yan)(q:Bool)(d:yaj)(r:List yai)(g:List yag)(nu:Int)(ns:List Int)(af:ByteArray)(pr:ByteArray)(ma:ByteArray)(fr:yaq)(mx:Int)(u:Unit)(he:QB n (19,w,b,y,i,bo,tg,l,q,d,r,g,nu,ns,af,pr,ma,fr,mx,u))(hr:QR (19,w,b,y,i,bo,tg,l,q,d,r,g,nu,ns,af,pr,ma,fr,mx,u))(h:w0.length+(eP (19,w,b,y,i,bo,tg,l,q,d,r,g,nu,ns,af,pr,ma,fr,mx,u)).length≤70368744177664) :
    yad.f n (w0,z) (19,w,b,y,i,bo,tg,l,q,d,r,g,nu,ns,af,pr,ma,fr,mx,u)=some ((w0++eP (19,w,b,y,i,bo,tg,l,q,d,r,g,nu,ns,af,pr,ma,fr,mx,u),()),()):=by
  rw[eP_19]at h ⊢
  try simp only[List.length_append]at h
  rw[yad.e0]
  simp only[yad.e1,yad.e2,yaP,Int.reduceBEq,bIf_t,bIf_f]
  try dsimp only
  rw[wNum hn _ () hr.i (by first | omega | (simp only[List.length_append];omega)),yaf]
  try dsimp only
  try simp only[List.append_assoc]
theorem wf_20 {n:Nat}(hn:300≤n)(hn2:n≤536870912)(w0:List Int)(z:Unit)(w:ByteArray)(b:ByteArray)(y:ByteArray)(i:Int)(bo:List Int)(tg:List yak)(l:yan)(q:Bool)(d:yaj)(r:List yai)(g:List yag)(nu:Int)(ns:List Int)(af:ByteArray)(pr:ByteArray)(ma:ByteArray)(fr:yaq)(mx:Int)(u:Unit)(he:QB n (20,w,b,y,i,bo,tg,l,q,d,r,g,nu,ns,af,pr,ma,fr,mx,u))(hr:QR (20,w,b,y,i,bo,tg,l,q,d,r,g,nu,ns,af,pr,ma,fr,mx,u))(h:w0.length+(eP (20,w,b,y,i,bo,tg,l,q,d,r,g,nu,ns,af,pr,ma,fr,mx,u)).length≤70368744177664) :
    yad.f n (w0,z) (20,w,b,y,i,bo,tg,l,q,d,r,g,nu,ns,af,pr,ma,fr,mx,u)=some ((w0++eP (20,w,b,y,i,bo,tg,l,q,d,r,g,nu,ns,af,pr,ma,fr,mx,u),()),()):=by
  rw[eP_20]at h ⊢
  try simp only[List.length_append]at h
  rw[yad.e0]
  simp only[yad.e1,yad.e2,yaP,Int.reduceBEq,bIf_t,bIf_f]
  try dsimp only
  rw[wText hn _ () (by first | omega | (simp only[List.length_append];omega)),yaf]
  try dsimp only
  rw[wText hn _ () (by first | omega | (simp only[List.length_append];omega)),yaf]
  try dsimp only
  rw[wText hn _ () (by first | omega | (simp only[List.length_append];omega)),yaf]
  try dsimp only
  rw[wNum hn _ () hr.fi (by first | omega | (simp only[List.length_append];omega)),yaf]
  try dsimp only
  try simp only[List.append_assoc]
theorem wf_21 {n:Nat}(hn:300≤n)(hn2:n≤536870912)(w0:List Int)(z:Unit)(w:ByteArray)(b:ByteArray)(y:ByteArray)(i:Int)(bo:List Int)(tg:List yak)(l:yan)(q:Bool)(d:yaj)(r:List yai)(g:List yag)(nu:Int)(ns:List Int)(af:ByteArray)(pr:ByteArray)(ma:ByteArray)(fr:yaq)(mx:Int)(u:Unit)(he:QB n (21,w,b,y,i,bo,tg,l,q,d,r,g,nu,ns,af,pr,ma,fr,mx,u))(hr:QR (21,w,b,y,i,bo,tg,l,q,d,r,g,nu,ns,af,pr,ma,fr,mx,u))(h:w0.length+(eP (21,w,b,y,i,bo,tg,l,q,d,r,g,nu,ns,af,pr,ma,fr,mx,u)).length≤70368744177664) :
    yad.f n (w0,z) (21,w,b,y,i,bo,tg,l,q,d,r,g,nu,ns,af,pr,ma,fr,mx,u)=some ((w0++eP (21,w,b,y,i,bo,tg,l,q,d,r,g,nu,ns,af,pr,ma,fr,mx,u),()),()):=by
  rw[eP_21]at h ⊢
  try simp only[List.length_append]at h
  rw[yad.e0]
  simp only[yad.e1,yad.e2,yaP,Int.reduceBEq,bIf_t,bIf_f]
  try dsimp only
  try rw[List.append_nil]
theorem wf_22 {n:Nat}(hn:300≤n)(hn2:n≤536870912)(w0:List Int)(z:Unit)(w:ByteArray)(b:ByteArray)(y:ByteArray)(i:Int)(bo:List Int)(tg:List yak)(l:yan)(q:Bool)(d:yaj)(r:List yai)(g:List yag)(nu:Int)(ns:List Int)(af:ByteArray)(pr:ByteArray)(ma:ByteArray)(fr:yaq)(mx:Int)(u:Unit)(he:QB n (22,w,b,y,i,bo,tg,l,q,d,r,g,nu,ns,af,pr,ma,fr,mx,u))(hr:QR (22,w,b,y,i,bo,tg,l,q,d,r,g,nu,ns,af,pr,ma,fr,mx,u))(h:w0.length+(eP (22,w,b,y,i,bo,tg,l,q,d,r,g,nu,ns,af,pr,ma,fr,mx,u)).length≤70368744177664) :
    yad.f n (w0,z) (22,w,b,y,i,bo,tg,l,q,d,r,g,nu,ns,af,pr,ma,fr,mx,u)=some ((w0++eP (22,w,b,y,i,bo,tg,l,q,d,r,g,nu,ns,af,pr,ma,fr,mx,u),()),()):=by
  rw[eP_22]at h ⊢
  try simp only[List.length_append]at h
  rw[yad.e0]
  simp only[yad.e1,yad.e2,yaP,Int.reduceBEq,bIf_t,bIf_f]
  try dsimp only
  try rw[List.append_nil]
end Go.Proofs.YtdlkpmohjhjmfaaGreatDoor

namespace Go.Proofs.YtdlkpmohjhjmfaaGreatDoor
open Go Go.Va Go.Proofs
structure SndQ (e:Q):Prop where
  kind:1≤e.1∧e.1≤22
  w:e.2.1.size≤64
  b:(if 21≤e.1 then eqS e.2.2.1 ⟨#[]⟩ else ya7 e.2.2.1)=true
  f107:fld (hasQ e.1) 107 (keyB e.2.2.2.1) (eqS e.2.2.2.1 ⟨#[]⟩)=true
  f105:fld (hasQ e.1) 105 (decide (e.2.2.2.2.1≥yea e.1)) ((e.2.2.2.2.1==0))=true
  f66:fld (hasQ e.1) 66 (decide (((e.2.2.2.2.2.1.length:Nat):Int)≤1024)) ((((e.2.2.2.2.2.1.length:Nat):Int)==0))=true
  f116:fld (hasQ e.1) 116 (tagsB e.2.2.2.2.2.2.1) ((((e.2.2.2.2.2.2.1.length:Nat):Int)==0))=true
  f108:fld (hasQ e.1) 108 ((lockB e.2.2.2.2.2.2.2.1&&lockK e.1 e.2.2.2.2.2.2.2.1)) (eqD yaK e.2.2.2.2.2.2.2.1 lockZ)=true
  f121:fld (hasQ e.1) 121 (true) ((!e.2.2.2.2.2.2.2.2.1))=true
  f100:fld (hasQ e.1) 100 (modeB e.2.2.2.2.2.2.2.2.2.1) (eqD yaz e.2.2.2.2.2.2.2.2.2.1 (0,(0,())))=true
  f114:fld (hasQ e.1) 114 (ydG e.2.2.2.2.2.2.2.2.2.2.1) ((((e.2.2.2.2.2.2.2.2.2.2.1.length:Nat):Int)==0))=true
  f103:fld (hasQ e.1) 103 (yc1 e.2.2.2.2.2.2.2.2.2.2.2.1) ((((e.2.2.2.2.2.2.2.2.2.2.2.1.length:Nat):Int)==0))=true
  f110:fld (hasQ e.1) 110 ((decide (e.2.2.2.2.2.2.2.2.2.2.2.2.1≥1)&&decide (e.2.2.2.2.2.2.2.2.2.2.2.2.1≤10000))) ((e.2.2.2.2.2.2.2.2.2.2.2.2.1==0))=true
  f78:fld (hasQ e.1) 78 (decide (((e.2.2.2.2.2.2.2.2.2.2.2.2.2.1.length:Nat):Int)≤16)) ((((e.2.2.2.2.2.2.2.2.2.2.2.2.2.1.length:Nat):Int)==0))=true
  f97:fld (hasQ e.1) 97 (nameB e.2.2.2.2.2.2.2.2.2.2.2.2.2.2.1) (eqS e.2.2.2.2.2.2.2.2.2.2.2.2.2.2.1 ⟨#[]⟩)=true
  f112:fld (hasQ e.1) 112 (nameB e.2.2.2.2.2.2.2.2.2.2.2.2.2.2.2.1) (eqS e.2.2.2.2.2.2.2.2.2.2.2.2.2.2.2.1 ⟨#[]⟩)=true
  f109:fld (hasQ e.1) 109 (nameB e.2.2.2.2.2.2.2.2.2.2.2.2.2.2.2.2.1) (eqS e.2.2.2.2.2.2.2.2.2.2.2.2.2.2.2.2.1 ⟨#[]⟩)=true
  f102:fld (hasQ e.1) 102 (fromK e.1 e.2.2.2.2.2.2.2.2.2.2.2.2.2.2.2.2.2.1) (eqD yaU e.2.2.2.2.2.2.2.2.2.2.2.2.2.2.2.2.2.1 spotZ)=true
  f120:fld (hasQ e.1) 120 ((decide (e.2.2.2.2.2.2.2.2.2.2.2.2.2.2.2.2.2.2.1≥1)&&decide (e.2.2.2.2.2.2.2.2.2.2.2.2.2.2.2.2.2.2.1≤100))) ((e.2.2.2.2.2.2.2.2.2.2.2.2.2.2.2.2.2.2.1==0))=true
theorem sndQ_of {e:Q}(h:goodQ e=true):SndQ e:=by
  unfold goodQ at h
  simp only[Bool.and_eq_true]at h
  obtain⟨⟨h1,h2⟩,h3,h4,h5,f107_,f105_,f66_,f116_,f108_,f121_,f100_,f114_,f103_,f110_,f78_,f97_,f112_,f109_,f102_,f120_⟩:=h
  have h3:decide (((e.2.1.size:Nat):Int)>64)=false:=by
    cases hh:decide (((e.2.1.size:Nat):Int)>64)
    · rfl
    · rw[hh]at h3;exact nomatch h3
  have h3:=of_decide_eq_false h3
  exact⟨⟨of_decide_eq_true h1,of_decide_eq_true h2⟩,by omega,h5,f107_,f105_,f66_,f116_,f108_,f121_,f100_,f114_,f103_,f110_,f78_,f97_,f112_,f109_,f102_,f120_⟩
theorem yc0 {k:Int}{c:Nat}{g z:Bool}(h:fld (hasQ k) c g z=true)(hi:inB (hasQ k) c=true):g=true:=by
  unfold fld at h;rw[if_pos hi]at h;exact h
theorem nameB_len {s:ByteArray}(h:nameB s=true):s.size≤200:=by
  unfold nameB at h
  simp only[Bool.and_eq_true,decide_eq_true_iff]at h;exact h.1
theorem eP_len_1 (w:ByteArray)(b:ByteArray)(y:ByteArray)(i:Int)(bo:List Int)(tg:List yak)(l:yan)(q:Bool)(d:yaj)(r:List yai)(g:List yag)(nu:Int)(ns:List Int)(af:ByteArray)(pr:ByteArray)(ma:ByteArray)(fr:yaq)(mx:Int)(u:Unit)(h:SndQ (1,w,b,y,i,bo,tg,l,q,d,r,g,nu,ns,af,pr,ma,fr,mx,u)):(eP (1,w,b,y,i,bo,tg,l,q,d,r,g,nu,ns,af,pr,ma,fr,mx,u)).length≤20000:=by
  rw[eP_1]
  have:=yej d.1
  have:=yej d.2.1
  unfold eDef
  try simp only[List.length_append]
  first | omega | simp
theorem eP_len_2 (w:ByteArray)(b:ByteArray)(y:ByteArray)(i:Int)(bo:List Int)(tg:List yak)(l:yan)(q:Bool)(d:yaj)(r:List yai)(g:List yag)(nu:Int)(ns:List Int)(af:ByteArray)(pr:ByteArray)(ma:ByteArray)(fr:yaq)(mx:Int)(u:Unit)(h:SndQ (2,w,b,y,i,bo,tg,l,q,d,r,g,nu,ns,af,pr,ma,fr,mx,u)):(eP (2,w,b,y,i,bo,tg,l,q,d,r,g,nu,ns,af,pr,ma,fr,mx,u)).length≤20000:=by
  rw[eP_2]
  try simp only[List.length_append]
  first | omega | simp
theorem eP_len_3 (w:ByteArray)(b:ByteArray)(y:ByteArray)(i:Int)(bo:List Int)(tg:List yak)(l:yan)(q:Bool)(d:yaj)(r:List yai)(g:List yag)(nu:Int)(ns:List Int)(af:ByteArray)(pr:ByteArray)(ma:ByteArray)(fr:yaq)(mx:Int)(u:Unit)(h:SndQ (3,w,b,y,i,bo,tg,l,q,d,r,g,nu,ns,af,pr,ma,fr,mx,u)):(eP (3,w,b,y,i,bo,tg,l,q,d,r,g,nu,ns,af,pr,ma,fr,mx,u)).length≤20000:=by
  rw[eP_3]
  have:=yej d.1
  have:=yej d.2.1
  unfold eDef
  try simp only[List.length_append]
  first | omega | simp
theorem eP_len_4 (w:ByteArray)(b:ByteArray)(y:ByteArray)(i:Int)(bo:List Int)(tg:List yak)(l:yan)(q:Bool)(d:yaj)(r:List yai)(g:List yag)(nu:Int)(ns:List Int)(af:ByteArray)(pr:ByteArray)(ma:ByteArray)(fr:yaq)(mx:Int)(u:Unit)(h:SndQ (4,w,b,y,i,bo,tg,l,q,d,r,g,nu,ns,af,pr,ma,fr,mx,u)):(eP (4,w,b,y,i,bo,tg,l,q,d,r,g,nu,ns,af,pr,ma,fr,mx,u)).length≤20000:=by
  rw[eP_4]
  have k4:ydG r=true:=yc0 h.f114 (show inB (hasQ 4) 114=true by decide +kernel)
  have:=rulesB_len k4
  try simp only[List.length_append]
  first | omega | simp
theorem eP_len_5 (w:ByteArray)(b:ByteArray)(y:ByteArray)(i:Int)(bo:List Int)(tg:List yak)(l:yan)(q:Bool)(d:yaj)(r:List yai)(g:List yag)(nu:Int)(ns:List Int)(af:ByteArray)(pr:ByteArray)(ma:ByteArray)(fr:yaq)(mx:Int)(u:Unit)(h:SndQ (5,w,b,y,i,bo,tg,l,q,d,r,g,nu,ns,af,pr,ma,fr,mx,u)):(eP (5,w,b,y,i,bo,tg,l,q,d,r,g,nu,ns,af,pr,ma,fr,mx,u)).length≤20000:=by
  rw[eP_5]
  have k5:yc1 g=true:=yc0 h.f103 (show inB (hasQ 5) 103=true by decide +kernel)
  have:=grantsB_len k5
  try simp only[List.length_append]
  first | omega | simp
theorem eP_len_6 (w:ByteArray)(b:ByteArray)(y:ByteArray)(i:Int)(bo:List Int)(tg:List yak)(l:yan)(q:Bool)(d:yaj)(r:List yai)(g:List yag)(nu:Int)(ns:List Int)(af:ByteArray)(pr:ByteArray)(ma:ByteArray)(fr:yaq)(mx:Int)(u:Unit)(h:SndQ (6,w,b,y,i,bo,tg,l,q,d,r,g,nu,ns,af,pr,ma,fr,mx,u)):(eP (6,w,b,y,i,bo,tg,l,q,d,r,g,nu,ns,af,pr,ma,fr,mx,u)).length≤20000:=by
  rw[eP_6]
  have k1:y.size≤200:=keyB_len (yc0 h.f107 (show inB (hasQ 6) 107=true by decide +kernel))
  have:=ydI y
  have k2:((bo.length:Nat):Int)≤1024:=of_decide_eq_true (yc0 h.f66 (show inB (hasQ 6) 66=true by decide +kernel))
  have:=ydI (ybp bo)
  rw[yc7]at this
  have k3:tagsB tg=true:=yc0 h.f116 (show inB (hasQ 6) 116=true by decide +kernel)
  have:=eTags_len k3
  have:=eLock_len l
  try simp only[List.length_append]
  first | omega | simp
theorem eP_len_7 (w:ByteArray)(b:ByteArray)(y:ByteArray)(i:Int)(bo:List Int)(tg:List yak)(l:yan)(q:Bool)(d:yaj)(r:List yai)(g:List yag)(nu:Int)(ns:List Int)(af:ByteArray)(pr:ByteArray)(ma:ByteArray)(fr:yaq)(mx:Int)(u:Unit)(h:SndQ (7,w,b,y,i,bo,tg,l,q,d,r,g,nu,ns,af,pr,ma,fr,mx,u)):(eP (7,w,b,y,i,bo,tg,l,q,d,r,g,nu,ns,af,pr,ma,fr,mx,u)).length≤20000:=by
  rw[eP_7]
  have k1:y.size≤200:=keyB_len (yc0 h.f107 (show inB (hasQ 7) 107=true by decide +kernel))
  have:=ydI y
  have:=eN_len i
  try simp only[List.length_append]
  first | omega | simp
theorem eP_len_8 (w:ByteArray)(b:ByteArray)(y:ByteArray)(i:Int)(bo:List Int)(tg:List yak)(l:yan)(q:Bool)(d:yaj)(r:List yai)(g:List yag)(nu:Int)(ns:List Int)(af:ByteArray)(pr:ByteArray)(ma:ByteArray)(fr:yaq)(mx:Int)(u:Unit)(h:SndQ (8,w,b,y,i,bo,tg,l,q,d,r,g,nu,ns,af,pr,ma,fr,mx,u)):(eP (8,w,b,y,i,bo,tg,l,q,d,r,g,nu,ns,af,pr,ma,fr,mx,u)).length≤20000:=by
  rw[eP_8]
  have k1:y.size≤200:=keyB_len (yc0 h.f107 (show inB (hasQ 8) 107=true by decide +kernel))
  have:=ydI y
  have:=eN_len i
  try simp only[List.length_append]
  first | omega | simp
theorem eP_len_9 (w:ByteArray)(b:ByteArray)(y:ByteArray)(i:Int)(bo:List Int)(tg:List yak)(l:yan)(q:Bool)(d:yaj)(r:List yai)(g:List yag)(nu:Int)(ns:List Int)(af:ByteArray)(pr:ByteArray)(ma:ByteArray)(fr:yaq)(mx:Int)(u:Unit)(h:SndQ (9,w,b,y,i,bo,tg,l,q,d,r,g,nu,ns,af,pr,ma,fr,mx,u)):(eP (9,w,b,y,i,bo,tg,l,q,d,r,g,nu,ns,af,pr,ma,fr,mx,u)).length≤20000:=by
  rw[eP_9]
  have k1:y.size≤200:=keyB_len (yc0 h.f107 (show inB (hasQ 9) 107=true by decide +kernel))
  have:=ydI y
  try simp only[List.length_append]
  first | omega | simp
theorem eP_len_10 (w:ByteArray)(b:ByteArray)(y:ByteArray)(i:Int)(bo:List Int)(tg:List yak)(l:yan)(q:Bool)(d:yaj)(r:List yai)(g:List yag)(nu:Int)(ns:List Int)(af:ByteArray)(pr:ByteArray)(ma:ByteArray)(fr:yaq)(mx:Int)(u:Unit)(h:SndQ (10,w,b,y,i,bo,tg,l,q,d,r,g,nu,ns,af,pr,ma,fr,mx,u)):(eP (10,w,b,y,i,bo,tg,l,q,d,r,g,nu,ns,af,pr,ma,fr,mx,u)).length≤20000:=by
  rw[eP_10]
  have k1:y.size≤200:=keyB_len (yc0 h.f107 (show inB (hasQ 10) 107=true by decide +kernel))
  have:=ydI y
  have:=eN_len i
  have:=eF_len q
  try simp only[List.length_append]
  first | omega | simp
theorem eP_len_11 (w:ByteArray)(b:ByteArray)(y:ByteArray)(i:Int)(bo:List Int)(tg:List yak)(l:yan)(q:Bool)(d:yaj)(r:List yai)(g:List yag)(nu:Int)(ns:List Int)(af:ByteArray)(pr:ByteArray)(ma:ByteArray)(fr:yaq)(mx:Int)(u:Unit)(h:SndQ (11,w,b,y,i,bo,tg,l,q,d,r,g,nu,ns,af,pr,ma,fr,mx,u)):(eP (11,w,b,y,i,bo,tg,l,q,d,r,g,nu,ns,af,pr,ma,fr,mx,u)).length≤20000:=by
  rw[eP_11]
  have k1:y.size≤200:=keyB_len (yc0 h.f107 (show inB (hasQ 11) 107=true by decide +kernel))
  have:=ydI y
  have:=eN_len i
  have:=eLock_len l
  have:=eF_len q
  try simp only[List.length_append]
  first | omega | simp
theorem eP_len_12 (w:ByteArray)(b:ByteArray)(y:ByteArray)(i:Int)(bo:List Int)(tg:List yak)(l:yan)(q:Bool)(d:yaj)(r:List yai)(g:List yag)(nu:Int)(ns:List Int)(af:ByteArray)(pr:ByteArray)(ma:ByteArray)(fr:yaq)(mx:Int)(u:Unit)(h:SndQ (12,w,b,y,i,bo,tg,l,q,d,r,g,nu,ns,af,pr,ma,fr,mx,u)):(eP (12,w,b,y,i,bo,tg,l,q,d,r,g,nu,ns,af,pr,ma,fr,mx,u)).length≤20000:=by
  rw[eP_12]
  have k1:y.size≤200:=keyB_len (yc0 h.f107 (show inB (hasQ 12) 107=true by decide +kernel))
  have:=ydI y
  have:=eN_len i
  have:=eLock_len l
  try simp only[List.length_append]
  first | omega | simp
theorem eP_len_13 (w:ByteArray)(b:ByteArray)(y:ByteArray)(i:Int)(bo:List Int)(tg:List yak)(l:yan)(q:Bool)(d:yaj)(r:List yai)(g:List yag)(nu:Int)(ns:List Int)(af:ByteArray)(pr:ByteArray)(ma:ByteArray)(fr:yaq)(mx:Int)(u:Unit)(h:SndQ (13,w,b,y,i,bo,tg,l,q,d,r,g,nu,ns,af,pr,ma,fr,mx,u)):(eP (13,w,b,y,i,bo,tg,l,q,d,r,g,nu,ns,af,pr,ma,fr,mx,u)).length≤20000:=by
  rw[eP_13]
  have k1:y.size≤200:=keyB_len (yc0 h.f107 (show inB (hasQ 13) 107=true by decide +kernel))
  have:=ydI y
  have:=eN_len i
  have k3:tagsB tg=true:=yc0 h.f116 (show inB (hasQ 13) 116=true by decide +kernel)
  have:=eTags_len k3
  try simp only[List.length_append]
  first | omega | simp
theorem eP_len_14 (w:ByteArray)(b:ByteArray)(y:ByteArray)(i:Int)(bo:List Int)(tg:List yak)(l:yan)(q:Bool)(d:yaj)(r:List yai)(g:List yag)(nu:Int)(ns:List Int)(af:ByteArray)(pr:ByteArray)(ma:ByteArray)(fr:yaq)(mx:Int)(u:Unit)(h:SndQ (14,w,b,y,i,bo,tg,l,q,d,r,g,nu,ns,af,pr,ma,fr,mx,u)):(eP (14,w,b,y,i,bo,tg,l,q,d,r,g,nu,ns,af,pr,ma,fr,mx,u)).length≤20000:=by
  rw[eP_14]
  have k_pr:pr.size≤200:=nameB_len (yc0 h.f112 (show inB (hasQ 14) 112=true by decide +kernel))
  have:=ydI pr
  have k_ma:ma.size≤200:=nameB_len (yc0 h.f109 (show inB (hasQ 14) 109=true by decide +kernel))
  have:=ydI ma
  have k_af:af.size≤200:=nameB_len (yc0 h.f97 (show inB (hasQ 14) 97=true by decide +kernel))
  have:=ydI af
  have:=yej mx
  try simp only[List.length_append]
  first | omega | simp
theorem eP_len_15 (w:ByteArray)(b:ByteArray)(y:ByteArray)(i:Int)(bo:List Int)(tg:List yak)(l:yan)(q:Bool)(d:yaj)(r:List yai)(g:List yag)(nu:Int)(ns:List Int)(af:ByteArray)(pr:ByteArray)(ma:ByteArray)(fr:yaq)(mx:Int)(u:Unit)(h:SndQ (15,w,b,y,i,bo,tg,l,q,d,r,g,nu,ns,af,pr,ma,fr,mx,u)):(eP (15,w,b,y,i,bo,tg,l,q,d,r,g,nu,ns,af,pr,ma,fr,mx,u)).length≤20000:=by
  rw[eP_15]
  have k_pr:pr.size≤200:=nameB_len (yc0 h.f112 (show inB (hasQ 15) 112=true by decide +kernel))
  have:=ydI pr
  have k6:(eqS fr.1 ⟨#[]⟩&&nameB fr.2.1)=true:=yc0 h.f102 (show inB (hasQ 15) 102=true by decide +kernel)
  rw[Bool.and_eq_true]at k6
  have:=nameB_len k6.2
  have:=ydI fr.2.1
  have:=eN_len fr.2.2.1
  have:=yej mx
  try simp only[List.length_append]
  first | omega | simp
theorem eP_len_16 (w:ByteArray)(b:ByteArray)(y:ByteArray)(i:Int)(bo:List Int)(tg:List yak)(l:yan)(q:Bool)(d:yaj)(r:List yai)(g:List yag)(nu:Int)(ns:List Int)(af:ByteArray)(pr:ByteArray)(ma:ByteArray)(fr:yaq)(mx:Int)(u:Unit)(h:SndQ (16,w,b,y,i,bo,tg,l,q,d,r,g,nu,ns,af,pr,ma,fr,mx,u)):(eP (16,w,b,y,i,bo,tg,l,q,d,r,g,nu,ns,af,pr,ma,fr,mx,u)).length≤20000:=by
  rw[eP_16]
  have k1:y.size≤200:=keyB_len (yc0 h.f107 (show inB (hasQ 16) 107=true by decide +kernel))
  have:=ydI y
  have k3:tagsB tg=true:=yc0 h.f116 (show inB (hasQ 16) 116=true by decide +kernel)
  have:=eTags_len k3
  try simp only[List.length_append]
  first | omega | simp
theorem eP_len_17 (w:ByteArray)(b:ByteArray)(y:ByteArray)(i:Int)(bo:List Int)(tg:List yak)(l:yan)(q:Bool)(d:yaj)(r:List yai)(g:List yag)(nu:Int)(ns:List Int)(af:ByteArray)(pr:ByteArray)(ma:ByteArray)(fr:yaq)(mx:Int)(u:Unit)(h:SndQ (17,w,b,y,i,bo,tg,l,q,d,r,g,nu,ns,af,pr,ma,fr,mx,u)):(eP (17,w,b,y,i,bo,tg,l,q,d,r,g,nu,ns,af,pr,ma,fr,mx,u)).length≤20000:=by
  rw[eP_17]
  have:=eN_len i
  have:=yej nu
  have k2:((bo.length:Nat):Int)≤1024:=of_decide_eq_true (yc0 h.f66 (show inB (hasQ 17) 66=true by decide +kernel))
  have:=ydI (ybp bo)
  rw[yc7]at this
  try simp only[List.length_append]
  first | omega | simp
theorem eP_len_18 (w:ByteArray)(b:ByteArray)(y:ByteArray)(i:Int)(bo:List Int)(tg:List yak)(l:yan)(q:Bool)(d:yaj)(r:List yai)(g:List yag)(nu:Int)(ns:List Int)(af:ByteArray)(pr:ByteArray)(ma:ByteArray)(fr:yaq)(mx:Int)(u:Unit)(h:SndQ (18,w,b,y,i,bo,tg,l,q,d,r,g,nu,ns,af,pr,ma,fr,mx,u)):(eP (18,w,b,y,i,bo,tg,l,q,d,r,g,nu,ns,af,pr,ma,fr,mx,u)).length≤20000:=by
  rw[eP_18]
  have:=eN_len i
  have:=yej ((ns.length:Nat):Int)
  have k7:((ns.length:Nat):Int)≤16:=of_decide_eq_true (yc0 h.f78 (show inB (hasQ 18) 78=true by decide +kernel))
  have:=flat_len (l:=ns) (f:=eI) (c:=10) (λx _=>eI_len x)
  try simp only[List.length_append]
  first | omega | simp
theorem eP_len_19 (w:ByteArray)(b:ByteArray)(y:ByteArray)(i:Int)(bo:List Int)(tg:List yak)(l:yan)(q:Bool)(d:yaj)(r:List yai)(g:List yag)(nu:Int)(ns:List Int)(af:ByteArray)(pr:ByteArray)(ma:ByteArray)(fr:yaq)(mx:Int)(u:Unit)(h:SndQ (19,w,b,y,i,bo,tg,l,q,d,r,g,nu,ns,af,pr,ma,fr,mx,u)):(eP (19,w,b,y,i,bo,tg,l,q,d,r,g,nu,ns,af,pr,ma,fr,mx,u)).length≤20000:=by
  rw[eP_19]
  have:=eN_len i
  try simp only[List.length_append]
  first | omega | simp
theorem eP_len_20 (w:ByteArray)(b:ByteArray)(y:ByteArray)(i:Int)(bo:List Int)(tg:List yak)(l:yan)(q:Bool)(d:yaj)(r:List yai)(g:List yag)(nu:Int)(ns:List Int)(af:ByteArray)(pr:ByteArray)(ma:ByteArray)(fr:yaq)(mx:Int)(u:Unit)(h:SndQ (20,w,b,y,i,bo,tg,l,q,d,r,g,nu,ns,af,pr,ma,fr,mx,u)):(eP (20,w,b,y,i,bo,tg,l,q,d,r,g,nu,ns,af,pr,ma,fr,mx,u)).length≤20000:=by
  rw[eP_20]
  have k1:y.size≤200:=keyB_len (yc0 h.f107 (show inB (hasQ 20) 107=true by decide +kernel))
  have:=ydI y
  have k6:(ya7 fr.1&&(keyB fr.2.1&&decide (fr.2.2.1≥1)))=true:=yc0 h.f102 (show inB (hasQ 20) 102=true by decide +kernel)
  rw[Bool.and_eq_true,Bool.and_eq_true]at k6
  have:=bucketB_len k6.1
  have:=keyB_len k6.2.1
  have:=ydI fr.1
  have:=ydI fr.2.1
  have:=eN_len fr.2.2.1
  try simp only[List.length_append]
  first | omega | simp
theorem eP_len_21 (w:ByteArray)(b:ByteArray)(y:ByteArray)(i:Int)(bo:List Int)(tg:List yak)(l:yan)(q:Bool)(d:yaj)(r:List yai)(g:List yag)(nu:Int)(ns:List Int)(af:ByteArray)(pr:ByteArray)(ma:ByteArray)(fr:yaq)(mx:Int)(u:Unit)(h:SndQ (21,w,b,y,i,bo,tg,l,q,d,r,g,nu,ns,af,pr,ma,fr,mx,u)):(eP (21,w,b,y,i,bo,tg,l,q,d,r,g,nu,ns,af,pr,ma,fr,mx,u)).length≤20000:=by
  rw[eP_21]
  try simp only[List.length_append]
  first | omega | simp
theorem eP_len_22 (w:ByteArray)(b:ByteArray)(y:ByteArray)(i:Int)(bo:List Int)(tg:List yak)(l:yan)(q:Bool)(d:yaj)(r:List yai)(g:List yag)(nu:Int)(ns:List Int)(af:ByteArray)(pr:ByteArray)(ma:ByteArray)(fr:yaq)(mx:Int)(u:Unit)(h:SndQ (22,w,b,y,i,bo,tg,l,q,d,r,g,nu,ns,af,pr,ma,fr,mx,u)):(eP (22,w,b,y,i,bo,tg,l,q,d,r,g,nu,ns,af,pr,ma,fr,mx,u)).length≤20000:=by
  rw[eP_22]
  try simp only[List.length_append]
  first | omega | simp
theorem eP_len {e:Q}(hs:SndQ e):(eP e).length≤20000:=by
  have hk:=hs.kind
  obtain⟨k,w,b,y,i,bo,tg,l,q,d,r,g,nu,ns,af,pr,ma,fr,mx,u⟩:=e
  have:k=1∨k=2∨k=3∨k=4∨k=5∨k=6∨k=7∨k=8∨k=9∨k=10∨k=11∨k=12∨k=13∨k=14∨k=15∨k=16∨k=17∨k=18∨k=19∨k=20∨k=21∨k=22:=by
    obtain⟨h1,h2⟩:=hk
    dsimp only at h1 h2
    omega
  rcases this with h | h | h | h | h | h | h | h | h | h | h | h | h | h | h | h | h | h | h | h | h | h<;>subst h
  · exact eP_len_1 w b y i bo tg l q d r g nu ns af pr ma fr mx u hs
  · exact eP_len_2 w b y i bo tg l q d r g nu ns af pr ma fr mx u hs
  · exact eP_len_3 w b y i bo tg l q d r g nu ns af pr ma fr mx u hs
  · exact eP_len_4 w b y i bo tg l q d r g nu ns af pr ma fr mx u hs
  · exact eP_len_5 w b y i bo tg l q d r g nu ns af pr ma fr mx u hs
  · exact eP_len_6 w b y i bo tg l q d r g nu ns af pr ma fr mx u hs
  · exact eP_len_7 w b y i bo tg l q d r g nu ns af pr ma fr mx u hs
  · exact eP_len_8 w b y i bo tg l q d r g nu ns af pr ma fr mx u hs
  · exact eP_len_9 w b y i bo tg l q d r g nu ns af pr ma fr mx u hs
  · exact eP_len_10 w b y i bo tg l q d r g nu ns af pr ma fr mx u hs
  · exact eP_len_11 w b y i bo tg l q d r g nu ns af pr ma fr mx u hs
  · exact eP_len_12 w b y i bo tg l q d r g nu ns af pr ma fr mx u hs
  · exact eP_len_13 w b y i bo tg l q d r g nu ns af pr ma fr mx u hs
  · exact eP_len_14 w b y i bo tg l q d r g nu ns af pr ma fr mx u hs
  · exact eP_len_15 w b y i bo tg l q d r g nu ns af pr ma fr mx u hs
  · exact eP_len_16 w b y i bo tg l q d r g nu ns af pr ma fr mx u hs
  · exact eP_len_17 w b y i bo tg l q d r g nu ns af pr ma fr mx u hs
  · exact eP_len_18 w b y i bo tg l q d r g nu ns af pr ma fr mx u hs
  · exact eP_len_19 w b y i bo tg l q d r g nu ns af pr ma fr mx u hs
  · exact eP_len_20 w b y i bo tg l q d r g nu ns af pr ma fr mx u hs
  · exact eP_len_21 w b y i bo tg l q d r g nu ns af pr ma fr mx u hs
  · exact eP_len_22 w b y i bo tg l q d r g nu ns af pr ma fr mx u hs
theorem wf {n:Nat}(hn:300≤n)(hn2:n≤536870912)(w0:List Int)(z:Unit){e:Q}(hs:SndQ e)(he:QB n e)(hr:QR e)(hh:w0.length+(eP e).length≤70368744177664):yad.f n (w0,z) e=some ((w0++eP e,()),()):=by
  have hk:=hs.kind
  obtain⟨k,w,b,y,i,bo,tg,l,q,d,r,g,nu,ns,af,pr,ma,fr,mx,u⟩:=e
  have:k=1∨k=2∨k=3∨k=4∨k=5∨k=6∨k=7∨k=8∨k=9∨k=10∨k=11∨k=12∨k=13∨k=14∨k=15∨k=16∨k=17∨k=18∨k=19∨k=20∨k=21∨k=22:=by
    obtain⟨h1,h2⟩:=hk
    dsimp only at h1 h2
    omega
  rcases this with h | h | h | h | h | h | h | h | h | h | h | h | h | h | h | h | h | h | h | h | h | h<;>subst h
  · exact wf_1 hn hn2 w0 z w b y i bo tg l q d r g nu ns af pr ma fr mx u he hr hh
  · exact wf_2 hn hn2 w0 z w b y i bo tg l q d r g nu ns af pr ma fr mx u he hr hh
  · exact wf_3 hn hn2 w0 z w b y i bo tg l q d r g nu ns af pr ma fr mx u he hr hh
  · exact wf_4 hn hn2 w0 z w b y i bo tg l q d r g nu ns af pr ma fr mx u he hr hh
  · exact wf_5 hn hn2 w0 z w b y i bo tg l q d r g nu ns af pr ma fr mx u he hr hh
  · exact wf_6 hn hn2 w0 z w b y i bo tg l q d r g nu ns af pr ma fr mx u he hr hh
  · exact wf_7 hn hn2 w0 z w b y i bo tg l q d r g nu ns af pr ma fr mx u he hr hh
  · exact wf_8 hn hn2 w0 z w b y i bo tg l q d r g nu ns af pr ma fr mx u he hr hh
  · exact wf_9 hn hn2 w0 z w b y i bo tg l q d r g nu ns af pr ma fr mx u he hr hh
  · exact wf_10 hn hn2 w0 z w b y i bo tg l q d r g nu ns af pr ma fr mx u he hr hh
  · exact wf_11 hn hn2 w0 z w b y i bo tg l q d r g nu ns af pr ma fr mx u he hr hh
  · exact wf_12 hn hn2 w0 z w b y i bo tg l q d r g nu ns af pr ma fr mx u he hr hh
  · exact wf_13 hn hn2 w0 z w b y i bo tg l q d r g nu ns af pr ma fr mx u he hr hh
  · exact wf_14 hn hn2 w0 z w b y i bo tg l q d r g nu ns af pr ma fr mx u he hr hh
  · exact wf_15 hn hn2 w0 z w b y i bo tg l q d r g nu ns af pr ma fr mx u he hr hh
  · exact wf_16 hn hn2 w0 z w b y i bo tg l q d r g nu ns af pr ma fr mx u he hr hh
  · exact wf_17 hn hn2 w0 z w b y i bo tg l q d r g nu ns af pr ma fr mx u he hr hh
  · exact wf_18 hn hn2 w0 z w b y i bo tg l q d r g nu ns af pr ma fr mx u he hr hh
  · exact wf_19 hn hn2 w0 z w b y i bo tg l q d r g nu ns af pr ma fr mx u he hr hh
  · exact wf_20 hn hn2 w0 z w b y i bo tg l q d r g nu ns af pr ma fr mx u he hr hh
  · exact wf_21 hn hn2 w0 z w b y i bo tg l q d r g nu ns af pr ma fr mx u he hr hh
  · exact wf_22 hn hn2 w0 z w b y i bo tg l q d r g nu ns af pr ma fr mx u he hr hh
def encQ (e:Q):List Int:=eW e.1++(eT e.2.1++((if 21≤e.1 then [] else eT e.2.2.1)++eP e))
def askS (e:Q):List Int×Int:=if goodQ e then (encQ e,0) else ([],2)
theorem encQ_len {e:Q}(hs:SndQ e):(encQ e).length≤20300:=by
  have h1:=eP_len hs
  have h2:=yej e.1
  have h3:=ydI e.2.1
  have h4:=hs.w
  have hb:=hs.b
  unfold encQ
  by_cases h21:21≤e.1
  · simp only[List.length_append,if_pos h21,List.length_nil];omega
  · rw[if_neg h21]at hb
    have:=bucketB_len hb
    have:=ydI e.2.2.1
    simp only[List.length_append,if_neg h21];omega
theorem wire_Ask {n:Nat} (hn:300≤n) (hn2:n≤536870912) {e:Q} (he:QB n e) (hr:QR e):ycA.f n e=some ((askS e).1,(askS e).2,()):=by
  rw[ycA.e0,acts_Good hn hn2 he,yaf]
  unfold askS
  cases hg:goodQ e
  · rfl
  · have hs:=sndQ_of hg
    have hk:=hs.kind
    have hl:=encQ_len hs
    unfold encQ at hl
    simp only[List.length_append]at hl
    rw[Bool.not_true,yao,if_pos rfl,ybF.e0,ydQ.e0,yaf,yaf]
    try dsimp only
    rw[wW hn [] () (by rw[List.length_nil];omega),yaf]
    try dsimp only
    rw[wText hn _ () (by simp only[List.length_append,List.length_nil];omega),yaf]
    try dsimp only
    unfold encQ
    have key:∀ L:List Int,L.length+(eP e).length≤70368744→∀ z,ycA.J2 n (e,z,(L,()),())=some (L++eP e,0,()):=by
      intro L hL z
      rw[ycA.e2]
      try dsimp only
      rw[wf hn hn2 L () hs he hr (by omega),yaf]
      try dsimp only
      rw[wOut () (by rw[List.length_append];omega),yaf]
    by_cases h21:21≤e.1
    · rw[if_pos h21]at hl ⊢
      have h5:ycA.J1 n (false,e,(((),()),()),([]++eW e.1++eT e.2.1,()),())=some (eW e.1++(eT e.2.1++([]++eP e)),0,()):=by
        rw[ycA.e1,yao]
        try dsimp only
        rw[key _ (by simp only[List.length_append,List.length_nil];omega)]
        simp only[List.nil_append,List.append_assoc]
      by_cases h0:e.1=21
      · rw[yaw,show (e.1 != 21)=false by rw[h0];rfl,yao];exact h5
      · rw[yaw,show (e.1 != 21)=true by rw[bne,beq_eq_false_iff_ne.2 h0];rfl,yau,yaw,show (e.1 != 22)=false by rw[show e.1=22 by omega];rfl];exact h5
    · rw[if_neg h21]at hl ⊢
      rw[yaw,show (e.1 != 21)=true by rw[bne,beq_eq_false_iff_ne.2 (by omega)];rfl,yau,yaw,show (e.1 != 22)=true by rw[bne,beq_eq_false_iff_ne.2 (by omega)];rfl,ycA.e1,yau]
      try dsimp only
      rw[wText hn _ () (by simp only[List.length_append,List.length_nil];omega),yaf]
      try dsimp only
      rw[key _ (by simp only[List.length_append,List.length_nil];omega)]
      simp only[List.nil_append,List.append_assoc]
end Go.Proofs.YtdlkpmohjhjmfaaGreatDoor

namespace Go.Proofs.YtdlkpmohjhjmfaaGreatDoor
open Go Go.Va Go.Proofs
abbrev hdQ (k:Int)(w b:ByteArray):Q:=(k,w,b,(⟨#[]⟩:ByteArray),0,[],[],lockZ,false,(0,(0,())),[],[],0,[],(⟨#[]⟩:ByteArray),(⟨#[]⟩:ByteArray),(⟨#[]⟩:ByteArray),spotZ,0,())
def bdBody (n:Nat)(l:List Int):Prop:=l.length<n∧BY l
def okBody (l:List Int):Prop:=l.length≤16384∧BY l
def okNums (l:List Int):Prop:=l.length≤16∧∀ x∈l,I64 x
def eNums (l:List Int):List Int:=eW ((l.length:Nat):Int)++l.flatMap eI
def bdQ (n:Nat)(e:Q):Prop:=QB n e∧QR e∧BY e.2.2.2.2.2.1
theorem rBody {n:Nat}(hn:300≤n)(hn2:n≤536870912):Rd n (α:=List Int) (ycm.f n) (λbo=>eT (ybp bo)) okBody (bdBody n) where
  any b e hb:=by
    obtain⟨x,b',e',h1,h2,h3⟩:=(rText hn hn2).any b e hb
    rw[ycm.e0,h1,yaf,yaw]
    try dsimp only
    cases eqS x ⟨#[]⟩
    · rw[Bool.not_false,yau]
      exact⟨_,_,_,rfl,h2,by rw[← size_of];exact h3,λy hy=>ofBytes_range hy⟩
    · rw[Bool.not_true,yao]
      exact⟨_,_,_,rfl,h2,by change 0<n;omega,ydC⟩
  enc x rest hx hb:=by
    rw[ycm.e0,(rText hn hn2).enc _ _ (by rw[yc7];exact hx.1) hb,yaf,yaw]
    try dsimp only
    cases h:eqS (ybp x) ⟨#[]⟩
    · rw[Bool.not_false,yau,ofBytes_bytesOf hx.2]
    · rw[size0,yc7,decide_eq_true_iff]at h
      rw[Bool.not_true,yao,List.eq_nil_of_length_eq_zero h]
theorem rNums {n:Nat} (hn:300≤n) (hn2:n≤536870912):Rd n (α:=List Int) (ya6.f n) eNums okNums okNums where
  any b e hb:=by
    obtain⟨c,b1,e1,h1,hb1,h2,h3⟩:=(rCount hn hn2 (most:=16) (by omega)).any b e hb
    obtain⟨y,rfl⟩:=Int.eq_ofNat_of_zero_le h2
    rw[ya6.e0,h1,yaf]
    try dsimp only
    obtain⟨out',b',e',h4,h5,h6,h7⟩:=rd_any (rInt hn hn2) y (λm out k r=>ya6.J1 n m (out,(y:Int),k,(((),()),()),r,())) (λout r=>some (out,r,()))
      (λm out k r x r' hk ho hF=>by
        try dsimp only
        rw[ya6.e1,yaw,decide_eq_true (by omega),yau,hF,yaf,yaO (by omega),ybQ k (by omega)])
      (λm out r ho=>by
        try dsimp only
        rw[ya6.e1,yaw,decide_eq_false (by omega),yao,ya6.e2]) n 0 [] b1 e1 (by omega) (by omega) rfl (by intro x hx;exact nomatch hx) hb1
    try dsimp only at h4
    rw[show ((0:Nat):Int)=0 from rfl]at h4
    rw[h4]
    exact⟨_,_,_,rfl,h5,by omega,h7⟩
  enc l rest hl hb:=by
    unfold eNums at hb ⊢
    rw[List.append_assoc]at hb ⊢
    have hlen:=hl.1
    rw[ya6.e0,(rCount hn hn2 (most:=16) (by omega)).enc _ _ ⟨by omega,by omega⟩ hb,yaf]
    try dsimp only
    have h4:=rd_enc (rInt hn hn2) l.length (λm out k r=>ya6.J1 n m (out,((l.length:Nat):Int),k,(((),()),()),r,())) (λout r=>some (out,r,()))
      (λm out k r x r' hk ho hF=>by
        try dsimp only
        rw[ya6.e1,yaw,decide_eq_true (by omega),yau,hF,yaf,yaO (by omega),ybQ k (by omega)])
      (λm out r ho=>by
        try dsimp only
        rw[ya6.e1,yaw,decide_eq_false (by omega),yao,ya6.e2]) rest n l 0 [] (by omega) (by omega) rfl hl.2 (ydP hb)
    try dsimp only at h4
    rw[show ((0:Nat):Int)=0 from rfl]at h4
    rw[h4,List.nil_append]
theorem mkQ {n:Nat}{k:Int}{w b y:ByteArray}{i:Int}{bo:List Int}{tg:List yak}{l:yan}{q:Bool}{d:yaj}{r:List yai}{g:List yag}{nu:Int}{ns:List Int}{af pr ma:ByteArray}{fr:yaq}{mx:Int}{u:Unit}
    (hw:w.size<n) (hb:b.size<n) (hy:y.size<n) (hi:U64 i) (hbo:bdBody n bo) (ht:TsB n tg) (hl:bdLock l) (hr:RusB n r) (hg:GrsB n g) (hns:okNums ns) (haf:af.size<n) (hpr:pr.size<n) (hma:ma.size<n) (hf1:fr.1.size<n) (hf2:fr.2.1.size<n) (hf3:U64 fr.2.2.1) (h3:300≤n) :
    bdQ n (k,w,b,y,i,bo,tg,l,q,d,r,g,nu,ns,af,pr,ma,fr,mx,u):=
  ⟨⟨hw,hb,hy,hi.1,hbo.1,ht,hr,hg,Nat.lt_of_le_of_lt hns.1 (by omega),haf,hpr,hma,hf1,hf2,hf3.1⟩,⟨hi,hl,hf3,hns.2⟩,hbo.2⟩
theorem qJ_any_1 {n:Nat}(hn:300≤n)(hn2:n≤536870912){w b:ByteArray}(hw:w.size<n)(hbk:b.size<n)(b0:List Int)(e0:Int)(hb0:BB n b0) :
    ∃ (x:Q) (b':List Int) (e':Int),yaa.f n (b0,e0,()) (hdQ 1 w b)=some ((b',e',()),x,())∧BB n b'∧bdQ n x:=by
  have h0:0<n:=by omega
  rw[yaa.e0]
  simp only[yaa.e1,yaa.e2,yaa.e3,yaM.e0,yaV.e0,yat.e0,yat.e1,yaP,Int.reduceBEq,bIf_t,bIf_f,yba,bnd_s]
  obtain⟨x1,b1,e1,h1,hb1,d1⟩:=(rDef hn hn2).any b0 e0 hb0
  rw[h1]
  try simp only[yba,bnd_s,bIf_t,bIf_f,Int.reduceBEq]
  exact⟨_,_,_,rfl,hb1,mkQ hw hbk h0 U64_0 ⟨h0,ydC⟩ ⟨h0,by intro t ht;exact nomatch ht⟩ I64_0 ⟨h0,by intro t ht;exact nomatch ht⟩ ⟨h0,by intro t ht;exact nomatch ht⟩ ⟨Nat.zero_le 16,by intro t ht;exact nomatch ht⟩ h0 h0 h0 h0 h0 U64_0 hn⟩
theorem qJ_any_2 {n:Nat}(hn:300≤n)(hn2:n≤536870912){w b:ByteArray}(hw:w.size<n)(hbk:b.size<n)(b0:List Int)(e0:Int)(hb0:BB n b0) :
    ∃ (x:Q) (b':List Int) (e':Int),yaa.f n (b0,e0,()) (hdQ 2 w b)=some ((b',e',()),x,())∧BB n b'∧bdQ n x:=by
  have h0:0<n:=by omega
  rw[yaa.e0]
  simp only[yaa.e1,yaa.e2,yaa.e3,yaM.e0,yaV.e0,yat.e0,yat.e1,yaP,Int.reduceBEq,bIf_t,bIf_f,yba,bnd_s]
  exact⟨_,_,_,rfl,hb0,mkQ hw hbk h0 U64_0 ⟨h0,ydC⟩ ⟨h0,by intro t ht;exact nomatch ht⟩ I64_0 ⟨h0,by intro t ht;exact nomatch ht⟩ ⟨h0,by intro t ht;exact nomatch ht⟩ ⟨Nat.zero_le 16,by intro t ht;exact nomatch ht⟩ h0 h0 h0 h0 h0 U64_0 hn⟩
theorem qJ_any_3 {n:Nat}(hn:300≤n)(hn2:n≤536870912){w b:ByteArray}(hw:w.size<n)(hbk:b.size<n)(b0:List Int)(e0:Int)(hb0:BB n b0) :
    ∃ (x:Q) (b':List Int) (e':Int),yaa.f n (b0,e0,()) (hdQ 3 w b)=some ((b',e',()),x,())∧BB n b'∧bdQ n x:=by
  have h0:0<n:=by omega
  rw[yaa.e0]
  simp only[yaa.e1,yaa.e2,yaa.e3,yaM.e0,yaV.e0,yat.e0,yat.e1,yaP,Int.reduceBEq,bIf_t,bIf_f,yba,bnd_s]
  obtain⟨x1,b1,e1,h1,hb1,d1⟩:=(rDef hn hn2).any b0 e0 hb0
  rw[h1]
  try simp only[yba,bnd_s,bIf_t,bIf_f,Int.reduceBEq]
  exact⟨_,_,_,rfl,hb1,mkQ hw hbk h0 U64_0 ⟨h0,ydC⟩ ⟨h0,by intro t ht;exact nomatch ht⟩ I64_0 ⟨h0,by intro t ht;exact nomatch ht⟩ ⟨h0,by intro t ht;exact nomatch ht⟩ ⟨Nat.zero_le 16,by intro t ht;exact nomatch ht⟩ h0 h0 h0 h0 h0 U64_0 hn⟩
theorem qJ_any_4 {n:Nat}(hn:300≤n)(hn2:n≤536870912){w b:ByteArray}(hw:w.size<n)(hbk:b.size<n)(b0:List Int)(e0:Int)(hb0:BB n b0) :
    ∃ (x:Q) (b':List Int) (e':Int),yaa.f n (b0,e0,()) (hdQ 4 w b)=some ((b',e',()),x,())∧BB n b'∧bdQ n x:=by
  have h0:0<n:=by omega
  rw[yaa.e0]
  simp only[yaa.e1,yaa.e2,yaa.e3,yaM.e0,yaV.e0,yat.e0,yat.e1,yaP,Int.reduceBEq,bIf_t,bIf_f,yba,bnd_s]
  obtain⟨x1,b1,e1,h1,hb1,d1⟩:=(rRules hn hn2).any b0 e0 hb0
  rw[h1]
  try simp only[yba,bnd_s,bIf_t,bIf_f,Int.reduceBEq]
  exact⟨_,_,_,rfl,hb1,mkQ hw hbk h0 U64_0 ⟨h0,ydC⟩ ⟨h0,by intro t ht;exact nomatch ht⟩ I64_0 d1 ⟨h0,by intro t ht;exact nomatch ht⟩ ⟨Nat.zero_le 16,by intro t ht;exact nomatch ht⟩ h0 h0 h0 h0 h0 U64_0 hn⟩
theorem qJ_any_5 {n:Nat}(hn:300≤n)(hn2:n≤536870912){w b:ByteArray}(hw:w.size<n)(hbk:b.size<n)(b0:List Int)(e0:Int)(hb0:BB n b0) :
    ∃ (x:Q) (b':List Int) (e':Int),yaa.f n (b0,e0,()) (hdQ 5 w b)=some ((b',e',()),x,())∧BB n b'∧bdQ n x:=by
  have h0:0<n:=by omega
  rw[yaa.e0]
  simp only[yaa.e1,yaa.e2,yaa.e3,yaM.e0,yaV.e0,yat.e0,yat.e1,yaP,Int.reduceBEq,bIf_t,bIf_f,yba,bnd_s]
  obtain⟨x1,b1,e1,h1,hb1,d1⟩:=(rGrants hn hn2).any b0 e0 hb0
  rw[h1]
  try simp only[yba,bnd_s,bIf_t,bIf_f,Int.reduceBEq]
  exact⟨_,_,_,rfl,hb1,mkQ hw hbk h0 U64_0 ⟨h0,ydC⟩ ⟨h0,by intro t ht;exact nomatch ht⟩ I64_0 ⟨h0,by intro t ht;exact nomatch ht⟩ d1 ⟨Nat.zero_le 16,by intro t ht;exact nomatch ht⟩ h0 h0 h0 h0 h0 U64_0 hn⟩
theorem qJ_any_6 {n:Nat}(hn:300≤n)(hn2:n≤536870912){w b:ByteArray}(hw:w.size<n)(hbk:b.size<n)(b0:List Int)(e0:Int)(hb0:BB n b0) :
    ∃ (x:Q) (b':List Int) (e':Int),yaa.f n (b0,e0,()) (hdQ 6 w b)=some ((b',e',()),x,())∧BB n b'∧bdQ n x:=by
  have h0:0<n:=by omega
  rw[yaa.e0]
  simp only[yaa.e1,yaa.e2,yaa.e3,yaM.e0,yaV.e0,yat.e0,yat.e1,yaP,Int.reduceBEq,bIf_t,bIf_f,yba,bnd_s]
  obtain⟨x1,b1,e1,h1,hb1,d1⟩:=(rText hn hn2).any b0 e0 hb0
  rw[h1]
  try simp only[yba,bnd_s,bIf_t,bIf_f,Int.reduceBEq]
  obtain⟨x2,b2,e2,h2,hb2,d2⟩:=(rBody hn hn2).any b1 e1 hb1
  rw[h2]
  try simp only[yba,bnd_s,bIf_t,bIf_f,Int.reduceBEq]
  obtain⟨x3,b3,e3,h3,hb3,d3⟩:=(rTags hn hn2).any b2 e2 hb2
  rw[h3]
  try simp only[yba,bnd_s,bIf_t,bIf_f,Int.reduceBEq]
  obtain⟨x4,b4,e4,h4,hb4,d4⟩:=(rLock hn hn2).any b3 e3 hb3
  rw[h4]
  try simp only[yba,bnd_s,bIf_t,bIf_f,Int.reduceBEq]
  exact⟨_,_,_,rfl,hb4,mkQ hw hbk d1 U64_0 d2 d3 d4 ⟨h0,by intro t ht;exact nomatch ht⟩ ⟨h0,by intro t ht;exact nomatch ht⟩ ⟨Nat.zero_le 16,by intro t ht;exact nomatch ht⟩ h0 h0 h0 h0 h0 U64_0 hn⟩
theorem qJ_any_7 {n:Nat}(hn:300≤n)(hn2:n≤536870912){w b:ByteArray}(hw:w.size<n)(hbk:b.size<n)(b0:List Int)(e0:Int)(hb0:BB n b0) :
    ∃ (x:Q) (b':List Int) (e':Int),yaa.f n (b0,e0,()) (hdQ 7 w b)=some ((b',e',()),x,())∧BB n b'∧bdQ n x:=by
  have h0:0<n:=by omega
  rw[yaa.e0]
  simp only[yaa.e1,yaa.e2,yaa.e3,yaM.e0,yaV.e0,yat.e0,yat.e1,yaP,Int.reduceBEq,bIf_t,bIf_f,yba,bnd_s]
  obtain⟨x1,b1,e1,h1,hb1,d1⟩:=(rText hn hn2).any b0 e0 hb0
  rw[h1]
  try simp only[yba,bnd_s,bIf_t,bIf_f,Int.reduceBEq]
  obtain⟨x2,b2,e2,h2,hb2,d2⟩:=(rNum hn hn2).any b1 e1 hb1
  rw[h2]
  try simp only[yba,bnd_s,bIf_t,bIf_f,Int.reduceBEq]
  exact⟨_,_,_,rfl,hb2,mkQ hw hbk d1 d2 ⟨h0,ydC⟩ ⟨h0,by intro t ht;exact nomatch ht⟩ I64_0 ⟨h0,by intro t ht;exact nomatch ht⟩ ⟨h0,by intro t ht;exact nomatch ht⟩ ⟨Nat.zero_le 16,by intro t ht;exact nomatch ht⟩ h0 h0 h0 h0 h0 U64_0 hn⟩
theorem qJ_any_8 {n:Nat}(hn:300≤n)(hn2:n≤536870912){w b:ByteArray}(hw:w.size<n)(hbk:b.size<n)(b0:List Int)(e0:Int)(hb0:BB n b0) :
    ∃ (x:Q) (b':List Int) (e':Int),yaa.f n (b0,e0,()) (hdQ 8 w b)=some ((b',e',()),x,())∧BB n b'∧bdQ n x:=by
  have h0:0<n:=by omega
  rw[yaa.e0]
  simp only[yaa.e1,yaa.e2,yaa.e3,yaM.e0,yaV.e0,yat.e0,yat.e1,yaP,Int.reduceBEq,bIf_t,bIf_f,yba,bnd_s]
  obtain⟨x1,b1,e1,h1,hb1,d1⟩:=(rText hn hn2).any b0 e0 hb0
  rw[h1]
  try simp only[yba,bnd_s,bIf_t,bIf_f,Int.reduceBEq]
  obtain⟨x2,b2,e2,h2,hb2,d2⟩:=(rNum hn hn2).any b1 e1 hb1
  rw[h2]
  try simp only[yba,bnd_s,bIf_t,bIf_f,Int.reduceBEq]
  exact⟨_,_,_,rfl,hb2,mkQ hw hbk d1 d2 ⟨h0,ydC⟩ ⟨h0,by intro t ht;exact nomatch ht⟩ I64_0 ⟨h0,by intro t ht;exact nomatch ht⟩ ⟨h0,by intro t ht;exact nomatch ht⟩ ⟨Nat.zero_le 16,by intro t ht;exact nomatch ht⟩ h0 h0 h0 h0 h0 U64_0 hn⟩
theorem qJ_any_9 {n:Nat}(hn:300≤n)(hn2:n≤536870912){w b:ByteArray}(hw:w.size<n)(hbk:b.size<n)(b0:List Int)(e0:Int)(hb0:BB n b0) :
    ∃ (x:Q) (b':List Int) (e':Int),yaa.f n (b0,e0,()) (hdQ 9 w b)=some ((b',e',()),x,())∧BB n b'∧bdQ n x:=by
  have h0:0<n:=by omega
  rw[yaa.e0]
  simp only[yaa.e1,yaa.e2,yaa.e3,yaM.e0,yaV.e0,yat.e0,yat.e1,yaP,Int.reduceBEq,bIf_t,bIf_f,yba,bnd_s]
  obtain⟨x1,b1,e1,h1,hb1,d1⟩:=(rText hn hn2).any b0 e0 hb0
  rw[h1]
  try simp only[yba,bnd_s,bIf_t,bIf_f,Int.reduceBEq]
  exact⟨_,_,_,rfl,hb1,mkQ hw hbk d1 U64_0 ⟨h0,ydC⟩ ⟨h0,by intro t ht;exact nomatch ht⟩ I64_0 ⟨h0,by intro t ht;exact nomatch ht⟩ ⟨h0,by intro t ht;exact nomatch ht⟩ ⟨Nat.zero_le 16,by intro t ht;exact nomatch ht⟩ h0 h0 h0 h0 h0 U64_0 hn⟩
theorem qJ_any_10 {n:Nat}(hn:300≤n)(hn2:n≤536870912){w b:ByteArray}(hw:w.size<n)(hbk:b.size<n)(b0:List Int)(e0:Int)(hb0:BB n b0) :
    ∃ (x:Q) (b':List Int) (e':Int),yaa.f n (b0,e0,()) (hdQ 10 w b)=some ((b',e',()),x,())∧BB n b'∧bdQ n x:=by
  have h0:0<n:=by omega
  rw[yaa.e0]
  simp only[yaa.e1,yaa.e2,yaa.e3,yaM.e0,yaV.e0,yat.e0,yat.e1,yaP,Int.reduceBEq,bIf_t,bIf_f,yba,bnd_s]
  obtain⟨x1,b1,e1,h1,hb1,d1⟩:=(rText hn hn2).any b0 e0 hb0
  rw[h1]
  try simp only[yba,bnd_s,bIf_t,bIf_f,Int.reduceBEq]
  obtain⟨x2,b2,e2,h2,hb2,d2⟩:=(rNum hn hn2).any b1 e1 hb1
  rw[h2]
  try simp only[yba,bnd_s,bIf_t,bIf_f,Int.reduceBEq]
  obtain⟨x3,b3,e3,h3,hb3,d3⟩:=(rFlag hn hn2).any b2 e2 hb2
  rw[h3]
  try simp only[yba,bnd_s,bIf_t,bIf_f,Int.reduceBEq]
  exact⟨_,_,_,rfl,hb3,mkQ hw hbk d1 d2 ⟨h0,ydC⟩ ⟨h0,by intro t ht;exact nomatch ht⟩ I64_0 ⟨h0,by intro t ht;exact nomatch ht⟩ ⟨h0,by intro t ht;exact nomatch ht⟩ ⟨Nat.zero_le 16,by intro t ht;exact nomatch ht⟩ h0 h0 h0 h0 h0 U64_0 hn⟩
theorem qJ_any_11 {n:Nat}(hn:300≤n)(hn2:n≤536870912){w b:ByteArray}(hw:w.size<n)(hbk:b.size<n)(b0:List Int)(e0:Int)(hb0:BB n b0) :
    ∃ (x:Q) (b':List Int) (e':Int),yaa.f n (b0,e0,()) (hdQ 11 w b)=some ((b',e',()),x,())∧BB n b'∧bdQ n x:=by
  have h0:0<n:=by omega
  rw[yaa.e0]
  simp only[yaa.e1,yaa.e2,yaa.e3,yaM.e0,yaV.e0,yat.e0,yat.e1,yaP,Int.reduceBEq,bIf_t,bIf_f,yba,bnd_s]
  obtain⟨x1,b1,e1,h1,hb1,d1⟩:=(rText hn hn2).any b0 e0 hb0
  rw[h1]
  try simp only[yba,bnd_s,bIf_t,bIf_f,Int.reduceBEq]
  obtain⟨x2,b2,e2,h2,hb2,d2⟩:=(rNum hn hn2).any b1 e1 hb1
  rw[h2]
  try simp only[yba,bnd_s,bIf_t,bIf_f,Int.reduceBEq]
  obtain⟨x3,b3,e3,h3,hb3,d3⟩:=(rLock hn hn2).any b2 e2 hb2
  rw[h3]
  try simp only[yba,bnd_s,bIf_t,bIf_f,Int.reduceBEq]
  obtain⟨x4,b4,e4,h4,hb4,d4⟩:=(rFlag hn hn2).any b3 e3 hb3
  rw[h4]
  try simp only[yba,bnd_s,bIf_t,bIf_f,Int.reduceBEq]
  exact⟨_,_,_,rfl,hb4,mkQ hw hbk d1 d2 ⟨h0,ydC⟩ ⟨h0,by intro t ht;exact nomatch ht⟩ d3 ⟨h0,by intro t ht;exact nomatch ht⟩ ⟨h0,by intro t ht;exact nomatch ht⟩ ⟨Nat.zero_le 16,by intro t ht;exact nomatch ht⟩ h0 h0 h0 h0 h0 U64_0 hn⟩
theorem qJ_any_12 {n:Nat}(hn:300≤n)(hn2:n≤536870912){w b:ByteArray}(hw:w.size<n)(hbk:b.size<n)(b0:List Int)(e0:Int)(hb0:BB n b0) :
    ∃ (x:Q) (b':List Int) (e':Int),yaa.f n (b0,e0,()) (hdQ 12 w b)=some ((b',e',()),x,())∧BB n b'∧bdQ n x:=by
  have h0:0<n:=by omega
  rw[yaa.e0]
  simp only[yaa.e1,yaa.e2,yaa.e3,yaM.e0,yaV.e0,yat.e0,yat.e1,yaP,Int.reduceBEq,bIf_t,bIf_f,yba,bnd_s]
  obtain⟨x1,b1,e1,h1,hb1,d1⟩:=(rText hn hn2).any b0 e0 hb0
  rw[h1]
  try simp only[yba,bnd_s,bIf_t,bIf_f,Int.reduceBEq]
  obtain⟨x2,b2,e2,h2,hb2,d2⟩:=(rNum hn hn2).any b1 e1 hb1
  rw[h2]
  try simp only[yba,bnd_s,bIf_t,bIf_f,Int.reduceBEq]
  obtain⟨x3,b3,e3,h3,hb3,d3⟩:=(rLock hn hn2).any b2 e2 hb2
  rw[h3]
  try simp only[yba,bnd_s,bIf_t,bIf_f,Int.reduceBEq]
  exact⟨_,_,_,rfl,hb3,mkQ hw hbk d1 d2 ⟨h0,ydC⟩ ⟨h0,by intro t ht;exact nomatch ht⟩ d3 ⟨h0,by intro t ht;exact nomatch ht⟩ ⟨h0,by intro t ht;exact nomatch ht⟩ ⟨Nat.zero_le 16,by intro t ht;exact nomatch ht⟩ h0 h0 h0 h0 h0 U64_0 hn⟩
theorem qJ_any_13 {n:Nat}(hn:300≤n)(hn2:n≤536870912){w b:ByteArray}(hw:w.size<n)(hbk:b.size<n)(b0:List Int)(e0:Int)(hb0:BB n b0) :
    ∃ (x:Q) (b':List Int) (e':Int),yaa.f n (b0,e0,()) (hdQ 13 w b)=some ((b',e',()),x,())∧BB n b'∧bdQ n x:=by
  have h0:0<n:=by omega
  rw[yaa.e0]
  simp only[yaa.e1,yaa.e2,yaa.e3,yaM.e0,yaV.e0,yat.e0,yat.e1,yaP,Int.reduceBEq,bIf_t,bIf_f,yba,bnd_s]
  obtain⟨x1,b1,e1,h1,hb1,d1⟩:=(rText hn hn2).any b0 e0 hb0
  rw[h1]
  try simp only[yba,bnd_s,bIf_t,bIf_f,Int.reduceBEq]
  obtain⟨x2,b2,e2,h2,hb2,d2⟩:=(rNum hn hn2).any b1 e1 hb1
  rw[h2]
  try simp only[yba,bnd_s,bIf_t,bIf_f,Int.reduceBEq]
  obtain⟨x3,b3,e3,h3,hb3,d3⟩:=(rTags hn hn2).any b2 e2 hb2
  rw[h3]
  try simp only[yba,bnd_s,bIf_t,bIf_f,Int.reduceBEq]
  exact⟨_,_,_,rfl,hb3,mkQ hw hbk d1 d2 ⟨h0,ydC⟩ d3 I64_0 ⟨h0,by intro t ht;exact nomatch ht⟩ ⟨h0,by intro t ht;exact nomatch ht⟩ ⟨Nat.zero_le 16,by intro t ht;exact nomatch ht⟩ h0 h0 h0 h0 h0 U64_0 hn⟩
theorem qJ_any_14 {n:Nat}(hn:300≤n)(hn2:n≤536870912){w b:ByteArray}(hw:w.size<n)(hbk:b.size<n)(b0:List Int)(e0:Int)(hb0:BB n b0) :
    ∃ (x:Q) (b':List Int) (e':Int),yaa.f n (b0,e0,()) (hdQ 14 w b)=some ((b',e',()),x,())∧BB n b'∧bdQ n x:=by
  have h0:0<n:=by omega
  rw[yaa.e0]
  simp only[yaa.e1,yaa.e2,yaa.e3,yaM.e0,yaV.e0,yat.e0,yat.e1,yaP,Int.reduceBEq,bIf_t,bIf_f,yba,bnd_s]
  obtain⟨x1,b1,e1,h1,hb1,d1⟩:=(rText hn hn2).any b0 e0 hb0
  rw[h1]
  try simp only[yba,bnd_s,bIf_t,bIf_f,Int.reduceBEq]
  obtain⟨x2,b2,e2,h2,hb2,d2⟩:=(rText hn hn2).any b1 e1 hb1
  rw[h2]
  try simp only[yba,bnd_s,bIf_t,bIf_f,Int.reduceBEq]
  obtain⟨x3,b3,e3,h3,hb3,d3⟩:=(rText hn hn2).any b2 e2 hb2
  rw[h3]
  try simp only[yba,bnd_s,bIf_t,bIf_f,Int.reduceBEq]
  obtain⟨x4,b4,e4,h4,hb4,d4⟩:=(rSmall hn hn2).any b3 e3 hb3
  rw[h4]
  try simp only[yba,bnd_s,bIf_t,bIf_f,Int.reduceBEq]
  exact⟨_,_,_,rfl,hb4,mkQ hw hbk h0 U64_0 ⟨h0,ydC⟩ ⟨h0,by intro t ht;exact nomatch ht⟩ I64_0 ⟨h0,by intro t ht;exact nomatch ht⟩ ⟨h0,by intro t ht;exact nomatch ht⟩ ⟨Nat.zero_le 16,by intro t ht;exact nomatch ht⟩ d3 d1 d2 h0 h0 U64_0 hn⟩
theorem qJ_any_15 {n:Nat}(hn:300≤n)(hn2:n≤536870912){w b:ByteArray}(hw:w.size<n)(hbk:b.size<n)(b0:List Int)(e0:Int)(hb0:BB n b0) :
    ∃ (x:Q) (b':List Int) (e':Int),yaa.f n (b0,e0,()) (hdQ 15 w b)=some ((b',e',()),x,())∧BB n b'∧bdQ n x:=by
  have h0:0<n:=by omega
  rw[yaa.e0]
  simp only[yaa.e1,yaa.e2,yaa.e3,yaM.e0,yaV.e0,yat.e0,yat.e1,yaP,Int.reduceBEq,bIf_t,bIf_f,yba,bnd_s]
  obtain⟨x1,b1,e1,h1,hb1,d1⟩:=(rText hn hn2).any b0 e0 hb0
  rw[h1]
  try simp only[yba,bnd_s,bIf_t,bIf_f,Int.reduceBEq]
  obtain⟨x2,b2,e2,h2,hb2,d2⟩:=(rText hn hn2).any b1 e1 hb1
  rw[h2]
  try simp only[yba,bnd_s,bIf_t,bIf_f,Int.reduceBEq]
  obtain⟨x3,b3,e3,h3,hb3,d3⟩:=(rNum hn hn2).any b2 e2 hb2
  rw[h3]
  try simp only[yba,bnd_s,bIf_t,bIf_f,Int.reduceBEq]
  obtain⟨x4,b4,e4,h4,hb4,d4⟩:=(rSmall hn hn2).any b3 e3 hb3
  rw[h4]
  try simp only[yba,bnd_s,bIf_t,bIf_f,Int.reduceBEq]
  exact⟨_,_,_,rfl,hb4,mkQ hw hbk h0 U64_0 ⟨h0,ydC⟩ ⟨h0,by intro t ht;exact nomatch ht⟩ I64_0 ⟨h0,by intro t ht;exact nomatch ht⟩ ⟨h0,by intro t ht;exact nomatch ht⟩ ⟨Nat.zero_le 16,by intro t ht;exact nomatch ht⟩ h0 d1 h0 h0 d2 d3 hn⟩
theorem qJ_any_16 {n:Nat}(hn:300≤n)(hn2:n≤536870912){w b:ByteArray}(hw:w.size<n)(hbk:b.size<n)(b0:List Int)(e0:Int)(hb0:BB n b0) :
    ∃ (x:Q) (b':List Int) (e':Int),yaa.f n (b0,e0,()) (hdQ 16 w b)=some ((b',e',()),x,())∧BB n b'∧bdQ n x:=by
  have h0:0<n:=by omega
  rw[yaa.e0]
  simp only[yaa.e1,yaa.e2,yaa.e3,yaM.e0,yaV.e0,yat.e0,yat.e1,yaP,Int.reduceBEq,bIf_t,bIf_f,yba,bnd_s]
  obtain⟨x1,b1,e1,h1,hb1,d1⟩:=(rText hn hn2).any b0 e0 hb0
  rw[h1]
  try simp only[yba,bnd_s,bIf_t,bIf_f,Int.reduceBEq]
  obtain⟨x2,b2,e2,h2,hb2,d2⟩:=(rTags hn hn2).any b1 e1 hb1
  rw[h2]
  try simp only[yba,bnd_s,bIf_t,bIf_f,Int.reduceBEq]
  exact⟨_,_,_,rfl,hb2,mkQ hw hbk d1 U64_0 ⟨h0,ydC⟩ d2 I64_0 ⟨h0,by intro t ht;exact nomatch ht⟩ ⟨h0,by intro t ht;exact nomatch ht⟩ ⟨Nat.zero_le 16,by intro t ht;exact nomatch ht⟩ h0 h0 h0 h0 h0 U64_0 hn⟩
theorem qJ_any_17 {n:Nat}(hn:300≤n)(hn2:n≤536870912){w b:ByteArray}(hw:w.size<n)(hbk:b.size<n)(b0:List Int)(e0:Int)(hb0:BB n b0) :
    ∃ (x:Q) (b':List Int) (e':Int),yaa.f n (b0,e0,()) (hdQ 17 w b)=some ((b',e',()),x,())∧BB n b'∧bdQ n x:=by
  have h0:0<n:=by omega
  rw[yaa.e0]
  simp only[yaa.e1,yaa.e2,yaa.e3,yaM.e0,yaV.e0,yat.e0,yat.e1,yaP,Int.reduceBEq,bIf_t,bIf_f,yba,bnd_s]
  obtain⟨x1,b1,e1,h1,hb1,d1⟩:=(rNum hn hn2).any b0 e0 hb0
  rw[h1]
  try simp only[yba,bnd_s,bIf_t,bIf_f,Int.reduceBEq]
  obtain⟨x2,b2,e2,h2,hb2,d2⟩:=(rSmall hn hn2).any b1 e1 hb1
  rw[h2]
  try simp only[yba,bnd_s,bIf_t,bIf_f,Int.reduceBEq]
  obtain⟨x3,b3,e3,h3,hb3,d3⟩:=(rBody hn hn2).any b2 e2 hb2
  rw[h3]
  try simp only[yba,bnd_s,bIf_t,bIf_f,Int.reduceBEq]
  exact⟨_,_,_,rfl,hb3,mkQ hw hbk h0 d1 d3 ⟨h0,by intro t ht;exact nomatch ht⟩ I64_0 ⟨h0,by intro t ht;exact nomatch ht⟩ ⟨h0,by intro t ht;exact nomatch ht⟩ ⟨Nat.zero_le 16,by intro t ht;exact nomatch ht⟩ h0 h0 h0 h0 h0 U64_0 hn⟩
theorem qJ_any_18 {n:Nat}(hn:300≤n)(hn2:n≤536870912){w b:ByteArray}(hw:w.size<n)(hbk:b.size<n)(b0:List Int)(e0:Int)(hb0:BB n b0) :
    ∃ (x:Q) (b':List Int) (e':Int),yaa.f n (b0,e0,()) (hdQ 18 w b)=some ((b',e',()),x,())∧BB n b'∧bdQ n x:=by
  have h0:0<n:=by omega
  rw[yaa.e0]
  simp only[yaa.e1,yaa.e2,yaa.e3,yaM.e0,yaV.e0,yat.e0,yat.e1,yaP,Int.reduceBEq,bIf_t,bIf_f,yba,bnd_s]
  obtain⟨x1,b1,e1,h1,hb1,d1⟩:=(rNum hn hn2).any b0 e0 hb0
  rw[h1]
  try simp only[yba,bnd_s,bIf_t,bIf_f,Int.reduceBEq]
  obtain⟨x2,b2,e2,h2,hb2,d2⟩:=(rNums hn hn2).any b1 e1 hb1
  rw[h2]
  try simp only[yba,bnd_s,bIf_t,bIf_f,Int.reduceBEq]
  exact⟨_,_,_,rfl,hb2,mkQ hw hbk h0 d1 ⟨h0,ydC⟩ ⟨h0,by intro t ht;exact nomatch ht⟩ I64_0 ⟨h0,by intro t ht;exact nomatch ht⟩ ⟨h0,by intro t ht;exact nomatch ht⟩ d2 h0 h0 h0 h0 h0 U64_0 hn⟩
theorem qJ_any_19 {n:Nat}(hn:300≤n)(hn2:n≤536870912){w b:ByteArray}(hw:w.size<n)(hbk:b.size<n)(b0:List Int)(e0:Int)(hb0:BB n b0) :
    ∃ (x:Q) (b':List Int) (e':Int),yaa.f n (b0,e0,()) (hdQ 19 w b)=some ((b',e',()),x,())∧BB n b'∧bdQ n x:=by
  have h0:0<n:=by omega
  rw[yaa.e0]
  simp only[yaa.e1,yaa.e2,yaa.e3,yaM.e0,yaV.e0,yat.e0,yat.e1,yaP,Int.reduceBEq,bIf_t,bIf_f,yba,bnd_s]
  obtain⟨x1,b1,e1,h1,hb1,d1⟩:=(rNum hn hn2).any b0 e0 hb0
  rw[h1]
  try simp only[yba,bnd_s,bIf_t,bIf_f,Int.reduceBEq]
  exact⟨_,_,_,rfl,hb1,mkQ hw hbk h0 d1 ⟨h0,ydC⟩ ⟨h0,by intro t ht;exact nomatch ht⟩ I64_0 ⟨h0,by intro t ht;exact nomatch ht⟩ ⟨h0,by intro t ht;exact nomatch ht⟩ ⟨Nat.zero_le 16,by intro t ht;exact nomatch ht⟩ h0 h0 h0 h0 h0 U64_0 hn⟩
theorem qJ_any_20 {n:Nat}(hn:300≤n)(hn2:n≤536870912){w b:ByteArray}(hw:w.size<n)(hbk:b.size<n)(b0:List Int)(e0:Int)(hb0:BB n b0) :
    ∃ (x:Q) (b':List Int) (e':Int),yaa.f n (b0,e0,()) (hdQ 20 w b)=some ((b',e',()),x,())∧BB n b'∧bdQ n x:=by
  have h0:0<n:=by omega
  rw[yaa.e0]
  simp only[yaa.e1,yaa.e2,yaa.e3,yaM.e0,yaV.e0,yat.e0,yat.e1,yaP,Int.reduceBEq,bIf_t,bIf_f,yba,bnd_s]
  obtain⟨x1,b1,e1,h1,hb1,d1⟩:=(rText hn hn2).any b0 e0 hb0
  rw[h1]
  try simp only[yba,bnd_s,bIf_t,bIf_f,Int.reduceBEq]
  obtain⟨x2,b2,e2,h2,hb2,d2⟩:=(rText hn hn2).any b1 e1 hb1
  rw[h2]
  try simp only[yba,bnd_s,bIf_t,bIf_f,Int.reduceBEq]
  obtain⟨x3,b3,e3,h3,hb3,d3⟩:=(rText hn hn2).any b2 e2 hb2
  rw[h3]
  try simp only[yba,bnd_s,bIf_t,bIf_f,Int.reduceBEq]
  obtain⟨x4,b4,e4,h4,hb4,d4⟩:=(rNum hn hn2).any b3 e3 hb3
  rw[h4]
  try simp only[yba,bnd_s,bIf_t,bIf_f,Int.reduceBEq]
  exact⟨_,_,_,rfl,hb4,mkQ hw hbk d1 U64_0 ⟨h0,ydC⟩ ⟨h0,by intro t ht;exact nomatch ht⟩ I64_0 ⟨h0,by intro t ht;exact nomatch ht⟩ ⟨h0,by intro t ht;exact nomatch ht⟩ ⟨Nat.zero_le 16,by intro t ht;exact nomatch ht⟩ h0 h0 h0 d2 d3 d4 hn⟩
theorem qJ_any_21 {n:Nat}(hn:300≤n)(hn2:n≤536870912){w b:ByteArray}(hw:w.size<n)(hbk:b.size<n)(b0:List Int)(e0:Int)(hb0:BB n b0) :
    ∃ (x:Q) (b':List Int) (e':Int),yaa.f n (b0,e0,()) (hdQ 21 w b)=some ((b',e',()),x,())∧BB n b'∧bdQ n x:=by
  have h0:0<n:=by omega
  rw[yaa.e0]
  simp only[yaa.e1,yaa.e2,yaa.e3,yaM.e0,yaV.e0,yat.e0,yat.e1,yaP,Int.reduceBEq,bIf_t,bIf_f,yba,bnd_s]
  exact⟨_,_,_,rfl,hb0,mkQ hw hbk h0 U64_0 ⟨h0,ydC⟩ ⟨h0,by intro t ht;exact nomatch ht⟩ I64_0 ⟨h0,by intro t ht;exact nomatch ht⟩ ⟨h0,by intro t ht;exact nomatch ht⟩ ⟨Nat.zero_le 16,by intro t ht;exact nomatch ht⟩ h0 h0 h0 h0 h0 U64_0 hn⟩
theorem qJ_any_22 {n:Nat}(hn:300≤n)(hn2:n≤536870912){w b:ByteArray}(hw:w.size<n)(hbk:b.size<n)(b0:List Int)(e0:Int)(hb0:BB n b0) :
    ∃ (x:Q) (b':List Int) (e':Int),yaa.f n (b0,e0,()) (hdQ 22 w b)=some ((b',e',()),x,())∧BB n b'∧bdQ n x:=by
  have h0:0<n:=by omega
  rw[yaa.e0]
  simp only[yaa.e1,yaa.e2,yaa.e3,yaM.e0,yaV.e0,yat.e0,yat.e1,yaP,Int.reduceBEq,bIf_t,bIf_f,yba,bnd_s]
  exact⟨_,_,_,rfl,hb0,mkQ hw hbk h0 U64_0 ⟨h0,ydC⟩ ⟨h0,by intro t ht;exact nomatch ht⟩ I64_0 ⟨h0,by intro t ht;exact nomatch ht⟩ ⟨h0,by intro t ht;exact nomatch ht⟩ ⟨Nat.zero_le 16,by intro t ht;exact nomatch ht⟩ h0 h0 h0 h0 h0 U64_0 hn⟩
end Go.Proofs.YtdlkpmohjhjmfaaGreatDoor

namespace Go.Proofs.YtdlkpmohjhjmfaaGreatDoor
open Go Go.Va Go.Proofs
theorem VI_z {n:Nat}(h:0<n):VI n verZ:=⟨VBz h,U64_0,I64_0,U64_0,I64_0,BY_zero 32⟩
end Go.Proofs.YtdlkpmohjhjmfaaGreatDoor

namespace Go.Proofs.YtdlkpmohjhjmfaaGreatDoor
open Go Go.Va Go.Proofs
theorem qJ_any {n:Nat}(hn:300≤n)(hn2:n≤536870912)(k:Int){w b:ByteArray}(hw:w.size<n)(hbk:b.size<n)(b0:List Int)(e0:Int)(hb0:BB n b0) :
    ∃ (x:Q) (b':List Int) (e':Int),yaa.f n (b0,e0,()) (hdQ k w b)=some ((b',e',()),x,())∧BB n b'∧bdQ n x:=by
  by_cases hk:1≤k∧k≤22
  · have:k=1∨k=2∨k=3∨k=4∨k=5∨k=6∨k=7∨k=8∨k=9∨k=10∨k=11∨k=12∨k=13∨k=14∨k=15∨k=16∨k=17∨k=18∨k=19∨k=20∨k=21∨k=22:=by omega
    rcases this with h | h | h | h | h | h | h | h | h | h | h | h | h | h | h | h | h | h | h | h | h | h<;>subst h
    · exact qJ_any_1 hn hn2 hw hbk b0 e0 hb0
    · exact qJ_any_2 hn hn2 hw hbk b0 e0 hb0
    · exact qJ_any_3 hn hn2 hw hbk b0 e0 hb0
    · exact qJ_any_4 hn hn2 hw hbk b0 e0 hb0
    · exact qJ_any_5 hn hn2 hw hbk b0 e0 hb0
    · exact qJ_any_6 hn hn2 hw hbk b0 e0 hb0
    · exact qJ_any_7 hn hn2 hw hbk b0 e0 hb0
    · exact qJ_any_8 hn hn2 hw hbk b0 e0 hb0
    · exact qJ_any_9 hn hn2 hw hbk b0 e0 hb0
    · exact qJ_any_10 hn hn2 hw hbk b0 e0 hb0
    · exact qJ_any_11 hn hn2 hw hbk b0 e0 hb0
    · exact qJ_any_12 hn hn2 hw hbk b0 e0 hb0
    · exact qJ_any_13 hn hn2 hw hbk b0 e0 hb0
    · exact qJ_any_14 hn hn2 hw hbk b0 e0 hb0
    · exact qJ_any_15 hn hn2 hw hbk b0 e0 hb0
    · exact qJ_any_16 hn hn2 hw hbk b0 e0 hb0
    · exact qJ_any_17 hn hn2 hw hbk b0 e0 hb0
    · exact qJ_any_18 hn hn2 hw hbk b0 e0 hb0
    · exact qJ_any_19 hn hn2 hw hbk b0 e0 hb0
    · exact qJ_any_20 hn hn2 hw hbk b0 e0 hb0
    · exact qJ_any_21 hn hn2 hw hbk b0 e0 hb0
    · exact qJ_any_22 hn hn2 hw hbk b0 e0 hb0
  · have h0:0<n:=by omega
    have c1:(k==1)=false:=by rw[beq_eq_false_iff_ne];omega
    have c2:(k==2)=false:=by rw[beq_eq_false_iff_ne];omega
    have c3:(k==3)=false:=by rw[beq_eq_false_iff_ne];omega
    have c4:(k==4)=false:=by rw[beq_eq_false_iff_ne];omega
    have c5:(k==5)=false:=by rw[beq_eq_false_iff_ne];omega
    have c6:(k==6)=false:=by rw[beq_eq_false_iff_ne];omega
    have c7:(k==7)=false:=by rw[beq_eq_false_iff_ne];omega
    have c8:(k==8)=false:=by rw[beq_eq_false_iff_ne];omega
    have c9:(k==9)=false:=by rw[beq_eq_false_iff_ne];omega
    have c10:(k==10)=false:=by rw[beq_eq_false_iff_ne];omega
    have c11:(k==11)=false:=by rw[beq_eq_false_iff_ne];omega
    have c12:(k==12)=false:=by rw[beq_eq_false_iff_ne];omega
    have c13:(k==13)=false:=by rw[beq_eq_false_iff_ne];omega
    have c14:(k==14)=false:=by rw[beq_eq_false_iff_ne];omega
    have c15:(k==15)=false:=by rw[beq_eq_false_iff_ne];omega
    have c16:(k==16)=false:=by rw[beq_eq_false_iff_ne];omega
    have c17:(k==17)=false:=by rw[beq_eq_false_iff_ne];omega
    have c18:(k==18)=false:=by rw[beq_eq_false_iff_ne];omega
    have c19:(k==19)=false:=by rw[beq_eq_false_iff_ne];omega
    have c20:(k==20)=false:=by rw[beq_eq_false_iff_ne];omega
    have c21:(k==21)=false:=by rw[beq_eq_false_iff_ne];omega
    have c22:(k==22)=false:=by rw[beq_eq_false_iff_ne];omega
    rw[yaa.e0]
    simp only[yaa.e1,yaa.e2,yaa.e3,yaP,c1,c2,c3,c4,c5,c6,c7,c8,c9,c10,c11,c12,c13,c14,c15,c16,c17,c18,c19,c20,c21,c22,bIf_t,bIf_f]
    exact⟨_,_,_,rfl,hb0,mkQ hw hbk h0 U64_0 ⟨h0,ydC⟩ ⟨h0,by intro t ht;exact nomatch ht⟩ I64_0 ⟨h0,by intro t ht;exact nomatch ht⟩ ⟨h0,by intro t ht;exact nomatch ht⟩ ⟨Nat.zero_le 16,by intro t ht;exact nomatch ht⟩ h0 h0 h0 h0 h0 U64_0 hn⟩
abbrev zeroQ:Q:=hdQ 0 ⟨#[]⟩ ⟨#[]⟩
noncomputable def finQ (b:List Int)(x:Q)(b':List Int)(e':Int):Option (Q×Int×Unit):=
  if e'=0∧b'.length=0∧(askS x).2=0∧eqS (ybp (askS x).1) (ybp b)=true then some (x,0,()) else some (zeroQ,2,())
theorem askJ2 {n:Nat} (hn:300≤n) (hn2:n≤536870912) (b:List Int) (b2:Q) (r:yaY) (hd:Q) (rd:yal) {x:Q} {b':List Int} {e':Int}
    (h:yaa.f n rd hd=some ((b',e',()),x,())) (hx:bdQ n x):ybK.J2 n (b,b2,r,hd,rd,())=finQ b x b' e':=by
  obtain⟨r',h1⟩:=rEnd hn hn2 b' e'
  rw[ybK.e2]
  change (bnd (yaa.f n rd hd) _)=_
  rw[h,yaf]
  try dsimp only
  rw[h1,yaf,yaw]
  unfold finQ
  try dsimp only
  by_cases h:e'=0
  · rw[if_pos h]
    by_cases h0:b'.length=0
    · rw[if_pos h0,show ((0:Int) != 0)=false from rfl,yao]
      change (bnd (ycA.f n x) _)=_
      rw[wire_Ask hn hn2 hx.1 hx.2.1,yaf,yaw]
      try dsimp only
      by_cases h2:(askS x).2=0
      · rw[h2,show ((0:Int) != 0)=false from rfl,yao,ybg.e0,yaf,yaw]
        try dsimp only
        cases h3:eqS (ybp (askS x).1) (ybp b)
        · rw[if_neg (by rintro⟨_,_,_,h⟩;exact nomatch h),ybK.e3];rfl
        · rw[ybK.e3,Bool.not_true,yao,ybK.e4,if_pos ⟨h,h0,rfl,rfl⟩]
      · rw[show ((askS x).2 != 0)=true by rw[bne,beq_eq_false_iff_ne.2 h2];rfl,yau,if_neg (λhh=>h2 hh.2.2.1),ybK.e3];rfl
    · rw[if_neg h0,if_neg (λhh=>h0 hh.2.1)];rfl
  · rw[if_neg h,show (e' != 0)=true by rw[bne,beq_eq_false_iff_ne.2 h];rfl,yau,if_neg (λhh=>h hh.1)]
theorem asked_any {n:Nat}(hn:300≤n)(hn2:n≤536870912){b:List Int}(hb:BB n b):∃ (x:Q) (b':List Int) (e':Int),ybK.f n b=finQ b x b' e'∧bdQ n x:=by
  have hlen:=hb.len
  have h0:(⟨#[]⟩:ByteArray).size<n:=by change 0<n;omega
  rw[ybK.e0,ydd.e0,yeB.e0,clone_byte (by omega),yaf,yaf,yaf]
  try dsimp only
  obtain⟨k,b1,e1,h1,hb1,d1⟩:=(rSmall hn hn2).any b 0 hb
  rw[h1,yaf]
  try dsimp only
  obtain⟨w,b2,e2,h2,hb2,d2⟩:=(rText hn hn2).any b1 e1 hb1
  rw[h2,yaf,yaw,yaw]
  try dsimp only
  have key1:∀ q z,∃ (x:Q) (b':List Int) (e':Int),ybK.J1 n (b,false,z,q,hdQ k w ⟨#[]⟩,(b2,e2,()),())=finQ b x b' e'∧bdQ n x:=by
    intro q z
    obtain⟨x,b',e',h3,h4,h5⟩:=qJ_any hn hn2 k d2 h0 b2 e2 hb2
    rw[ybK.e1,yao]
    exact⟨x,b',e',askJ2 hn hn2 b _ _ _ _ h3 h5,h5⟩
  have key2:∀ q z,∃ (x:Q) (b':List Int) (e':Int),ybK.J1 n (b,true,z,q,hdQ k w ⟨#[]⟩,(b2,e2,()),())=finQ b x b' e'∧bdQ n x:=by
    intro q z
    obtain⟨bk,b3,e3,h3,hb3,d3⟩:=(rText hn hn2).any b2 e2 hb2
    obtain⟨x,b',e',h4,h5,h6⟩:=qJ_any hn hn2 k d2 d3 b3 e3 hb3
    rw[ybK.e1,yau,h3,yaf]
    exact⟨x,b',e',askJ2 hn hn2 b _ _ _ _ h4 h6,h6⟩
  cases (k != 21)
  · exact key1 _ _
  · cases (k != 22)
    · exact key1 _ _
    · exact key2 _ _
theorem askS_ok {e:Q}(h:(askS e).2=0):goodQ e=true∧(askS e).1=encQ e:=by
  unfold askS at h ⊢
  cases hg:goodQ e
  · rw[hg]at h;exact absurd (show (2:Int)=0 from h) (by decide)
  · exact⟨rfl,rfl⟩
theorem BY_ite {c:Prop} [Decidable c]{a b:List Int}(ha:BY a)(hb:BY b):BY (if c then a else b):=by split<;>assumption
theorem BY_Def (d:yaj):BY (eDef d):=yc2 (BY_W _) (BY_W _)
theorem BY_Rules (l:List yai):BY (eRules l):=yc2 (BY_W _) (BY_flat λr _=>yc2 (BY_T _) (yc2 (BY_Tags _) (yc2 (BY_W _) (yc2 (BY_W _) (BY_F _)))))
theorem BY_Grants (l:List yag):BY (eGrants l):=yc2 (BY_W _) (BY_flat λr _=>yc2 (BY_F _) (yc2 (BY_T _) (yc2 (BY_T _) (BY_T _))))
theorem BY_flI (l:List Int):BY (l.flatMap eI):=BY_flat λx _=>BY_I x
theorem BY_P (e:Q):BY (eP e):=by
  unfold eP
  repeat' with_reducible (first | exact ydC | exact BY_T _ | exact BY_N _ | exact BY_W _ | exact BY_F _ | exact BY_Lock _ | exact BY_Tags _ | exact BY_Def _ | exact BY_Rules _ | exact BY_Grants _ | exact BY_flI _ | apply BY_ite | apply yc2)
theorem BY_Q (e:Q):BY (encQ e):=by
  refine yc2 (BY_W _) (yc2 (BY_T _) (yc2 ?_ (BY_P e)))
  split
  · exact ydC
  · exact BY_T _
theorem sameQ_refl (a:Q):sameQ a a=true:=by
  unfold sameQ
  rw[ybO,ybO,ybO,ycS,ydv,ybO,ybO,ybO,yc4,ybO,allB_refl _ (λx _=>sameT_refl x),allB_refl _ (λx _=>ruleRefl x),allB_refl _ (λx _=>grantRefl x),allB_refl (q:=sameI) _ (λx _=>(beq_self_eq_true x:(x==x)=true))]
  simp only[beq_self_eq_true,Bool.and_true]
theorem asked_reads {n:Nat}(hn:30000≤n)(hn2:n≤536870912){b:List Int}(hb:BB n b):ybK.f n b=some (zeroQ,2,())∨∃ x,ybK.f n b=some (x,0,())∧bdQ n x∧(askS x).2=0∧encQ x=b:=by
  obtain⟨x,b',e',h1,h3⟩:=asked_any (by omega) hn2 hb
  rw[h1]
  unfold finQ
  by_cases h:e'=0∧b'.length=0∧(askS x).2=0∧eqS (ybp (askS x).1) (ybp b)=true
  · rw[if_pos h]
    have h4:=(askS_ok h.2.2.1).2
    have h5:=h.2.2.2
    rw[h4]at h5
    exact .inr ⟨x,rfl,h3,h.2.2.1,bytes_inj (BY_Q x) hb.byte h5⟩
  · rw[if_neg h];exact .inl rfl
end Go.Proofs.YtdlkpmohjhjmfaaGreatDoor

namespace Go.Proofs.YtdlkpmohjhjmfaaGreatDoor
open Go Go.Va Go.Proofs
end Go.Proofs.YtdlkpmohjhjmfaaGreatDoor

namespace Go.Proofs.YtdlkpmohjhjmfaaGreatDoor
open Go Go.Va Go.Proofs
theorem RI_err {n:Nat}(h:0<n)(e:Int):RI n (errRP e):=⟨⟨h,VBz h,h,(λx hx=>nomatch hx),h,h⟩,U64_0,VI_z h,(λx hx=>nomatch hx),(λx hx=>nomatch hx),ydC⟩
theorem tellS_ok {r:RP}(h:(tellS r).2=0):goodRP r=true∧(tellS r).1=encRP r:=by
  unfold tellS at h ⊢
  cases hg:goodRP r
  · rw[hg]at h;exact absurd (show (2:Int)=0 from h) (by decide)
  · exact⟨rfl,rfl⟩
theorem BY_RP {n:Nat}{r:RP}(hi:RI n r):BY (encRP r):=by
  refine yc2 (BY_W _) (BY_ite ?_ ydC)
  refine yc2 (BY_N _) (yc2 (BY_T _) (yc2 ?_ (yc2 ?_ (yc2 (BY_F _) (yc2 (yc2 (BY_W _) (BY_flat λx _=>BY_W x)) (yc2 (BY_W _) (BY_flat λx _=>BY_T x)))))))
  · exact yc2 (BY_F _) (BY_ite ydC (BY_Ver hi.ver.dy))
  · exact yc2 (BY_W _) (BY_flat λx hx=>yc2 (BY_T _) (yc2 (BY_F _) (BY_ite ydC (yc2 (BY_Ver (hi.row x hx).2.dy) (BY_F _)))))
theorem encRP_len {n:Nat}{r:RP}(hg:goodRP r=true)(hi:RI n r):(encRP r).length≤200010:=by
  unfold encRP
  rw[List.length_append]
  have h1:=yej r.1
  by_cases h0:r.1=0
  · rw[if_pos h0]
    have:=encF_len (good_fine hg h0) hi
    omega
  · rw[if_neg h0,List.length_nil];omega
end Go.Proofs.YtdlkpmohjhjmfaaGreatDoor

namespace Go.Proofs.YtdlkpmohjhjmfaaGreatDoor
open Go Go.Va Go.Proofs Go.ChangeShapes Go.WideShapes Go.ChangeAt Go.RowKit
theorem kids : Kids Tryz.prog (· < Tryz.prog.types.size) := kids_rows (by kernel_rfl) (by kernel_rfl)
theorem full : ∀ t e, t < Tryz.prog.types.size → Tryz.prog.underlying t = some (.slice e) → 0 < Tryz.prog.cellsOf e := slices_full_of Tryz.prog (by kernel_rfl)
theorem own : ownKnob Tryz.prog.godebug = none := by kernel_rfl
mutual
theorem bulk_eq {H : Type} : ∀ (d : DataW H), Rows.uptoBulk d = bulk d
  | .lit l => by cases l <;> simp [Rows.uptoBulk, bulk]
  | .nil => by simp [Rows.uptoBulk, bulk]
  | .ptr d => by simp [Rows.uptoBulk, bulk, bulk_eq d]
  | .slice elems spare => by simp [Rows.uptoBulk, bulk, bulkL_eq elems, bulkL_eq spare]
  | .agg parts => by simp [Rows.uptoBulk, bulk, bulkL_eq parts]
  | .iface _ d => by simp [Rows.uptoBulk, bulk, bulk_eq d]
  | .map entries => by simp [Rows.uptoBulk, bulk, bulkE_eq entries]
  | .held _ => by simp [Rows.uptoBulk, bulk]
theorem bulkL_eq {H : Type} : ∀ (l : List (DataW H)), Rows.uptoBulkAll l = bulkL l
  | [] => by simp [Rows.uptoBulkAll, bulkL]
  | d :: r => by simp [Rows.uptoBulkAll, bulkL, bulk_eq d, bulkL_eq r]
theorem bulkE_eq {H : Type} : ∀ (l : List (Lit × DataW H)), Rows.uptoBulkEntries l = bulkE l
  | [] => by simp [Rows.uptoBulkEntries, bulkE]
  | x :: r => by simp [Rows.uptoBulkEntries, bulkE, bulkX_eq x, bulkE_eq r]
theorem bulkX_eq {H : Type} : ∀ (x : Lit × DataW H), Rows.uptoBulkEntry x = bulkX x
  | (l, d) => by cases l <;> simp [Rows.uptoBulkEntry, bulkX, bulk_eq d]
end
theorem small_of {H : Type} {ds gs : List (DataW H)} (h : Rows.uptoSmall H (ds ++ gs) = true) : bulkL ds ≤ 1048576 := by
  have h := of_decide_eq_true h
  rw [bulkL_eq, bulkL_append] at h
  omega
theorem acc_eq : (Rows.laid_unicode_utf8_acceptRanges : DataW Unit) = Lib.acceptData := by kernel_rfl
theorem fst_eq : Rows.laid_unicode_utf8_first = Lib.firstData := by kernel_rfl
theorem p10_eq : (Rows.laid_internal_strconv_uint64pow10 : DataW Unit) = Lib.tabData .u64 Lib.pow10Tab := by kernel_rfl
theorem tabs_of {W : World} (h3 : Lib.VarReads Tryz.prog W "unicode/utf8.first" Lib.firstData) (h4 : Lib.VarReads Tryz.prog W "unicode/utf8.acceptRanges" Lib.acceptData) : Lib.Utf8Tabs 2 3 W :=
  utf8Tabs_of_readsT (U8Types.of196 Tryz.l196) ⟨by kernel_rfl, by kernel_rfl, by kernel_rfl, by kernel_rfl, by kernel_rfl, by kernel_rfl, by kernel_rfl⟩ h3 h4
theorem live_of {W : World} {b o : Nat} {v : Value} (h : W.cell? ⟨b, o, none⟩ = some v) : b < W.heap.size := by
  rcases Nat.lt_or_ge b W.heap.size with hb | hb
  · exact hb
  · have : W.heap[b]? = none := Array.getElem?_eq_none hb
    simp [World.cell?, this] at h
theorem heap_of_var {W : World} {n : String} {g : Nat} {cs : Array Value} (hg : Tryz.prog.globalNamed n = some g) (h : W.var? Tryz.prog n = some cs) : ∃ t fr, W.heap[g]? = some (.cells cs t fr) := by
  unfold World.var? at h
  rw [hg, Option.bind_some] at h
  split at h
  · rename_i cs' t fr hh
    injection h with h
    subst h
    exact ⟨t, fr, hh⟩
  · exact absurd h (by simp)
abbrev laidAll : List (String × DataW Unit) := [("math/bits.deBruijn32tab", Rows.laid_math_bits_deBruijn32tab), ("math/bits.deBruijn64tab", Rows.laid_math_bits_deBruijn64tab), ("internal/strconv.uint64pow10", Rows.laid_internal_strconv_uint64pow10), ("unicode/utf8.acceptRanges", Rows.laid_unicode_utf8_acceptRanges), ("strconv.ErrRange", Rows.laid_strconv_ErrRange), ("strconv.ErrSyntax", Rows.laid_strconv_ErrSyntax), ("unicode/utf8.first", Rows.laid_unicode_utf8_first)]
theorem errName (u : TypeId) (h : Tryz.prog.typeName? 3 u = some "*errors.errorString") : u = 293 :=
  typeName_ptr_named (nm := "errors.errorString") (by rw [show ("*" : String) ++ "errors.errorString" = "*errors.errorString" by decide]; kernel_rfl) (by kernel_rfl) (by decide) u (by rw [show ("*" : String) ++ "errors.errorString" = "*errors.errorString" by decide]; exact h)
theorem gl_of {W : World} (hL : laidMet Tryz.prog laidAll W) (hsh : W.ShapedOpen Tryz.prog) : (∀ p ∈ Gl.tab, p.1 < W.heap.size ∧ ∃ cs, p.2 cs ∧ At W ⟨p.1, 0, none⟩ cs) ∧ ∀ p ∈ Gl.ex, ∃ o, W.heap[p.1]? = some o ∧ p.2 o := by
  have hT : Lib.Utf8Tabs 2 3 W := tabs_of (fst_eq ▸ Lib.laidMet.reads hL (.tail _ (.tail _ (.tail _ (.tail _ (.tail _ (.tail _ (.head _)))))))) (acc_eq ▸ Lib.laidMet.reads hL (.tail _ (.tail _ (.tail _ (.head _)))))
  have h3 := laidMet.tail (laidMet.tail hL)
  rw [p10_eq] at h3
  have hP : Lib.TabIs Tryz.prog W "internal/strconv.uint64pow10" .u64 Lib.pow10Tab := Lib.tabIs_of_head (g := 1) (t := 227) (e := 22) (n := 20) (by kernel_rfl) (by kernel_rfl) (by kernel_rfl) (by kernel_rfl) (by kernel_rfl) (by kernel_rfl) h3
  have h5 := laidMet.tail (laidMet.tail h3)
  obtain ⟨a1, s1, e1, _⟩ := laid_sentinel (tp := 293) (te := 295) (ts := 9) h5 (g := 7) (ti := 93) (by kernel_rfl) (by kernel_rfl) Tryz.underlying93 errName Tryz.underlying293 Tryz.underlying295 rfl rfl Tryz.underlying9 (by kernel_rfl) (by kernel_rfl)
  obtain ⟨a2, s2, e2, _⟩ := laid_sentinel (tp := 293) (te := 295) (ts := 9) (laidMet.tail h5) (g := 6) (ti := 93) (by kernel_rfl) (by kernel_rfl) Tryz.underlying93 errName Tryz.underlying293 Tryz.underlying295 rfl rfl Tryz.underlying9 (by kernel_rfl) (by kernel_rfl)
  refine ⟨?_, ?_⟩
  · obtain ⟨h0, h1⟩ := hT
    intro p hp
    have hp : p = (2, fun cs => cs = firstCells) ∨ p = (3, fun cs => cs = yd1) ∨ p = (0, fun cs => ∃ m, cs = [.int .i64 m]) := by simpa [Gl.tab] using hp
    rcases hp with rfl | rfl | rfl
    · refine ⟨live_of (h0 0 (by omega)), _, rfl, rfl, fun j hj => ?_⟩
      have hj2 : j < 256 := by simpa [firstCells, Lib.firstTab] using hj
      simp only [Nat.zero_add]
      rw [h0 j hj2]
      simp [firstCells, Lib.firstTab]
    · refine ⟨live_of (h1 0 (by omega)).1, _, rfl, rfl, fun j hj => ?_⟩
      have hl : yd1.length = 32 := by kernel_rfl
      have hj2 : j < 32 := by rw [← hl]; exact hj
      simp only [Nat.zero_add]
      obtain ⟨e0, e1⟩ := acc_get (j / 2) (by omega)
      obtain ⟨c0, c1⟩ := h1 (j / 2) (by omega)
      rcases Nat.mod_two_eq_zero_or_one j with hm | hm
      · have ej : j = 2 * (j / 2) := by omega
        rw [show (⟨3, j, none⟩ : Addr) = ⟨3, 2 * (j / 2), none⟩ by rw [← ej], c0, ← e0, ← ej, List.getElem?_eq_getElem hj]
      · have ej : j = 2 * (j / 2) + 1 := by omega
        rw [show (⟨3, j, none⟩ : Addr) = ⟨3, 2 * (j / 2) + 1, none⟩ by rw [← ej], c1, ← e1, ← ej, List.getElem?_eq_getElem hj]
    · obtain ⟨m, hm⟩ := cell_of_shapedOpen_int (P := Tryz.prog) (g := 0) (t := 3) (zero := #[.int .i64 0]) hsh (of_decide_eq_true (by kernel_rfl)) (by kernel_rfl) rfl (by kernel_rfl) (by kernel_rfl) Tryz.underlying3
      refine ⟨live_of hm, _, ⟨m, rfl⟩, rfl, fun j hj => ?_⟩
      obtain rfl : j = 0 := by simpa using hj
      simpa using hm
  · intro p hp
    have hp : p = (1, fun o => ∃ t fr, o = .cells pow10Cells t fr) ∨ p = (6, ErrCell) ∨ p = (7, ErrCell) := by simpa [Gl.ex] using hp
    rcases hp with rfl | rfl | rfl
    · obtain ⟨t, fr, h⟩ := heap_of_var (by kernel_rfl) hP
      exact ⟨_, h, t, fr, rfl⟩
    · obtain ⟨t, fr, h⟩ := heap_of_var (g := 6) (by kernel_rfl) e2
      exact ⟨_, h, _, t, fr, rfl, .inr ⟨_, _, rfl⟩⟩
    · obtain ⟨t, fr, h⟩ := heap_of_var (g := 7) (by kernel_rfl) e1
      exact ⟨_, h, _, t, fr, rfl, .inr ⟨_, _, rfl⟩⟩
noncomputable def laidWorld (os : Os) : World :=
  let w0 := World.holding Tryz.prog os ⟨#[.cells #[.string ⟨#[118, 97, 108, 117, 101, 32, 111, 117, 116, 32, 111, 102, 32, 114, 97, 110, 103, 101]⟩] 295, .cells #[.string ⟨#[105, 110, 118, 97, 108, 105, 100, 32, 115, 121, 110, 116, 97, 120]⟩] 295], #[], []⟩
  let put (h : Array Obj) (g : Nat) (cs : Array Value) : Array Obj := h.modify g fun
    | .cells _ t frozen => .cells cs t frozen
    | o => o
  let h1 := put w0.heap 2 firstCells.toArray
  let h2 := put h1 3 yd1.toArray
  let h3 := put h2 1 pow10Cells
  let h4 := put h3 4 #[.int .u8 0, .int .u8 1, .int .u8 28, .int .u8 2, .int .u8 29, .int .u8 14, .int .u8 24, .int .u8 3, .int .u8 30, .int .u8 22, .int .u8 20, .int .u8 15, .int .u8 25, .int .u8 17, .int .u8 4, .int .u8 8, .int .u8 31, .int .u8 27, .int .u8 13, .int .u8 23, .int .u8 21, .int .u8 19, .int .u8 16, .int .u8 7, .int .u8 26, .int .u8 12, .int .u8 18, .int .u8 6, .int .u8 11, .int .u8 5, .int .u8 10, .int .u8 9]
  let h5 := put h4 5 #[.int .u8 0, .int .u8 1, .int .u8 56, .int .u8 2, .int .u8 57, .int .u8 49, .int .u8 28, .int .u8 3, .int .u8 61, .int .u8 58, .int .u8 42, .int .u8 50, .int .u8 38, .int .u8 29, .int .u8 17, .int .u8 4, .int .u8 62, .int .u8 47, .int .u8 59, .int .u8 36, .int .u8 45, .int .u8 43, .int .u8 51, .int .u8 22, .int .u8 53, .int .u8 39, .int .u8 33, .int .u8 30, .int .u8 24, .int .u8 18, .int .u8 12, .int .u8 5, .int .u8 63, .int .u8 55, .int .u8 48, .int .u8 27, .int .u8 60, .int .u8 41, .int .u8 37, .int .u8 16, .int .u8 46, .int .u8 35, .int .u8 44, .int .u8 21, .int .u8 52, .int .u8 32, .int .u8 23, .int .u8 11, .int .u8 54, .int .u8 26, .int .u8 40, .int .u8 15, .int .u8 34, .int .u8 20, .int .u8 31, .int .u8 10, .int .u8 25, .int .u8 14, .int .u8 19, .int .u8 9, .int .u8 13, .int .u8 8, .int .u8 7, .int .u8 6]
  let h6 := put h5 7 #[.iface 293 (.pointer (some ⟨13, 0, none⟩))]
  let h7 := put h6 6 #[.iface 293 (.pointer (some ⟨14, 0, none⟩))]
  { w0 with heap := h7 }
set_option maxRecDepth 100000 in
theorem laid_met (os : Os) (args : Array Value) : laidMet Tryz.prog laidAll ((laidWorld os).forCall (fun _ _ => 0) ⟨#[], args, []⟩).memory :=
  (LaidIn.of_run (l := laidAll) [1, 2, 3, 4, 5, 6, 7, 13, 14] 8 (by kernel_rfl) (by kernel_rfl) (by kernel_rfl) (by kernel_rfl)).met
theorem getL {α : Type} {a : Array α} {i : Nat} {x : α} (h : a.toList[i]? = some x) : a[i]? = some x := by simpa using h
theorem and_i {a b : Bool} (ha : a = true) (hb : b = true) : (a && b) = true := by rw [ha, hb]; rfl
theorem factLaid : laidOutB Tryz.pinned.checked.prog = true := by kernel_rfl
theorem factMaps : mapsRowed Tryz.pinned.checked.prog = true := by kernel_rfl
theorem factHeard : Tryz.pinned.checked.prog.stopsHeard = true := by kernel_rfl
theorem factEnter : Tryz.pinned.checked.prog.mayEnter = true := by kernel_rfl
end Go.Proofs.YtdlkpmohjhjmfaaGreatDoor

namespace Go.Proofs.YtdlkpmohjhjmfaaGreatDoor
open Go Go.Va Go.Proofs
abbrev H16 : ByteArray := ⟨#[48, 49, 50, 51, 52, 53, 54, 55, 56, 57, 97, 98, 99, 100, 101, 102]⟩
def hex2 (x : Int) : List Int := [bt H16 (x / 16), bt H16 (x % 16)]
def hexL (b : List Int) : List Int := b.flatMap hex2
theorem hexL_len (b : List Int) : (hexL b).length = b.length * 2 := by
  unfold hexL
  induction b with
  | nil => rfl
  | cons x b ih => rw [List.flatMap_cons, List.length_append, ih, List.length_cons]; change 2 + _ = _; omega
theorem flat2_len (b : List Int) : (b.flatMap hex2).length = b.length * 2 := hexL_len b
theorem alpha_Hex {n : Nat} (hn2 : n ≤ 536870912) {b : List Int} (hb : BB n b) : ycK.f n b = some (ybp (hexL b), ()) := by
  have hlen := hb.len
  have := app_loop (l := b) 0 hex2 70368744177664 (fun m k L => ycK.J1 n m (L, b, ((b.length : Nat) : Int), k, ())) (fun L => some (ybp L, ()))
    (fun m k L hk hL => by
      try dsimp only
      obtain ⟨q1, q2⟩ := hb.byte _ (ydS (d := (0 : Int)) hk)
      rw [ycK.e1, yaw, decide_eq_true (by omega), yau, yaO ⟨by omega, by omega⟩, Int.toNat_natCast]
      generalize b.getD k 0 = x at q1 q2 hL ⊢
      have e1 : shrI .u8 x 4 = x / 16 := shr_eq (k := .u8) (y := 4) (by decide)
      have e2 : bitI .and .u8 x 15 = x % 16 := and_mask (k := .u8) (w := 4) q1 (by change x < 256; omega) (by decide)
      have h16 : ((H16.size : Nat) : Int) = 16 := rfl
      change L.length + 2 ≤ _ at hL
      rw [yeF (by decide), e1, e2, yaO (show 0 ≤ x / 16 ∧ x / 16 < ((H16.size : Nat) : Int) by omega), yaO (show 0 ≤ x % 16 ∧ x % 16 < ((H16.size : Nat) : Int) by omega), yaO (by omega), ybQ k (by omega)]
      rfl)
    (fun m L hL => by
      try dsimp only
      rw [ycK.e1, yaw, decide_eq_false (by omega), yao, ycK.e2]) n 0 [] (by omega) (by omega) (by rw [List.drop_zero, flat2_len, List.length_nil]; omega)
  try dsimp only at this
  rw [show ((0 : Nat) : Int) = 0 from rfl, List.drop_zero, List.nil_append] at this
  rw [ycK.e0, ydo (by omega), yaO ⟨by decide, by omega, by omega, by decide, by decide⟩, this]
  rfl
def dd (u : Nat) : ByteArray := ⟨(Lib.decDigits u).toArray⟩
theorem dd_small {u : Nat} (h : u < 10) : dd u = ybp [48 + (u : Int)] := by
  unfold dd
  rw [Lib.decDigits, dif_pos h]
  have : ∀ u : Nat, u < 10 → (⟨[UInt8.ofNat (48 + u)].toArray⟩ : ByteArray) = ybp [48 + (u : Int)] := by decide +kernel
  exact this u h
theorem dd_step {u : Nat} (h : ¬ u < 10) : dd u = dd (u / 10) ++ ybp [48 + ((u % 10 : Nat) : Int)] := by
  unfold dd
  rw [Lib.decDigits, dif_neg h]
  have : ∀ u : Nat, u < 10 → ybp [48 + (u : Int)] = (⟨[UInt8.ofNat (48 + u)].toArray⟩ : ByteArray) := by decide +kernel
  rw [this _ (Nat.mod_lt _ (by decide))]
  apply ByteArray.ext
  simp
theorem dd_len {u k : Nat} (h : u < 10 ^ (k + 1)) : (dd u).size ≤ k + 1 := by
  induction k generalizing u with
  | zero => rw [dd_small (by simpa using h), yc7]; exact Nat.le_refl 1
  | succ k ih =>
    by_cases h1 : u < 10
    · rw [dd_small h1, yc7, List.length_singleton]; omega
    · rw [dd_step h1, ByteArray.size_append, yc7, List.length_singleton]
      have := ih (u := u / 10) (Nat.div_lt_of_lt_mul (by rw [Nat.mul_comm, ← Nat.pow_succ]; exact h))
      omega
theorem itoaB_pos {x : Int} (h : 0 ≤ x) : itoaB x = dd x.toNat := by
  unfold itoaB Lib.itoa dd
  rw [if_neg (by omega)]
theorem itoaB_neg {x : Int} (h : x < 0) : itoaB x = ⟨#[45]⟩ ++ dd x.natAbs := by
  unfold itoaB Lib.itoa dd
  rw [if_pos h]
  apply ByteArray.ext
  simp
theorem itoaB_len {x : Int} (h : I64 x) : (itoaB x).size ≤ 21 := by
  obtain ⟨h1, h2⟩ := h
  by_cases h0 : 0 ≤ x
  · rw [itoaB_pos h0]
    have := dd_len (u := x.toNat) (k := 19) (by omega)
    omega
  · rw [itoaB_neg (by omega), ByteArray.size_append]
    have := dd_len (u := x.natAbs) (k := 19) (by omega)
    change 1 + _ ≤ 21
    omega
end Go.Proofs.YtdlkpmohjhjmfaaGreatDoor

namespace Go.Proofs.YtdlkpmohjhjmfaaGreatDoor
open Go Go.Va Go.Proofs
abbrev okB : ByteArray := ⟨#[111, 107, 32]⟩
abbrev errB : ByteArray := ⟨#[101, 114, 114, 111, 114, 32]⟩
noncomputable def replyS (r : RP) : ByteArray := if r.1 = 0 ∧ (tellS r).2 = 0 then okB ++ ybp (hexL (tellS r).1) else errB ++ itoaB r.1
theorem tell_BB {n : Nat} (hn : 300000 ≤ n) {r : RP} (hi : RI n r) (h : (tellS r).2 = 0) : BB n (tellS r).1 := by
  obtain ⟨hg, h1⟩ := tellS_ok h
  rw [h1]
  exact ⟨by have := encRP_len hg hi; omega, BY_RP hi⟩
theorem itoa_ok {x : Int} (h : I64 x) : ycO.f x = some (itoaB x, ()) := by
  unfold ycO.f
  obtain ⟨h1, h2⟩ := h
  rw [if_pos ⟨by omega, by omega⟩]
theorem fmt_ok {x : Int} (h : I64 x) : ycU.f x 10 = some (itoaB x, ()) := by
  unfold ycU.f
  obtain ⟨h1, h2⟩ := h
  rw [if_pos ⟨rfl, by omega, by omega⟩]
theorem script_Reply {n : Nat} (hn : 300000 ≤ n) (hn2 : n ≤ 536870912) {r : RP} (hi : RI n r) (he : I64 r.1) : ycl.f n r = some (replyS r, ()) := by
  have h2 : ycl.J2 n (r, ()) = some (errB ++ itoaB r.1, ()) := by
    have := itoaB_len he
    rw [ycl.e2, itoa_ok he, yaf, yaO (by change 6 + (itoaB r.1).size ≤ 4611686018427387904; omega)]
  rw [ycl.e0, wire_Tell (by omega) hn2 hi, yaf, yaw, yaw]
  unfold replyS
  by_cases h0 : r.1 = 0
  · rw [show (r.1 == 0) = true from beq_iff_eq.2 h0, yau, ycl.e1]
    by_cases h : (tellS r).2 = 0
    · have hb := tell_BB hn hi h
      have hl := hb.len
      rw [show ((tellS r).2 == 0) = true from beq_iff_eq.2 h, yau, alpha_Hex hn2 hb, yaf, yaO (by change 3 + (ybp (hexL (tellS r).1)).size ≤ 4611686018427387904; rw [yc7, hexL_len]; omega), if_pos ⟨h0, h⟩]
    · rw [show ((tellS r).2 == 0) = false from beq_eq_false_iff_ne.2 h, yao, h2, if_neg (fun hh => h hh.2)]
  · rw [show (r.1 == 0) = false from beq_eq_false_iff_ne.2 h0, yao, ycl.e1, yao, h2, if_neg (fun hh => h0 hh.1)]
abbrev Act : Type := yaZ
abbrev qZ : Q := hdQ 0 ⟨#[]⟩ ⟨#[]⟩
abbrev actZ (k : Int) : Act := (k, (qZ, (0, (0, ([], ())))))
theorem itoa1 (u : Nat) (h : u < 10) : itoaB (u : Int) = ybp [48 + (u : Int)] := by
  rw [itoaB_pos (by omega), Int.toNat_natCast, dd_small h]
theorem QB_z {n : Nat} (h : 300 ≤ n) : QB n qZ := by
  have h0 : 0 < n := by omega
  exact (mkQ (by change 0 < n; omega) (by change 0 < n; omega) h0 U64_0 ⟨h0, ydC⟩ ⟨h0, by intro t ht; exact nomatch ht⟩ I64_0 ⟨h0, by intro t ht; exact nomatch ht⟩ ⟨h0, by intro t ht; exact nomatch ht⟩ ⟨Nat.zero_le 16, by intro t ht; exact nomatch ht⟩ h0 h0 h0 h0 h0 U64_0 h : bdQ n qZ).1
noncomputable def numsOk (l : List ByteArray) : Bool := l.all fun s => (numB s).2
noncomputable def numsV (l : List ByteArray) : List Int := l.map fun s => (numB s).1
theorem numbers_J {n : Nat} (hn2 : n ≤ 536870912) {w : List ByteArray} (hlen : w.length < n) (hs : ∀ s ∈ w, s.size ≤ 281474976710656) : ∀ (m k : Nat) (out : List Int), k ≤ w.length → w.length - k < m → out.length = k →
    yck.J1 n m (out, w, ((w.length : Nat) : Int), (k : Int), ()) = if numsOk (w.drop k) = true then some (out ++ numsV (w.drop k), true, ()) else some ([], false, ())
  | 0, k, out, _, h, _ => by omega
  | m + 1, k, out, hk, h, ho => by
    rw [yck.e1, yaw]
    by_cases hlt : k < w.length
    · have hd : w.drop k = w.getD k ⟨#[]⟩ :: w.drop (k + 1) := by
        rw [List.drop_eq_getElem_cons hlt, List.getD_eq_getElem?_getD, List.getElem?_eq_getElem hlt]; rfl
      have hsz := hs _ (ydS (d := (⟨#[]⟩ : ByteArray)) hlt)
      rw [decide_eq_true (by omega), yau, yaO ⟨by omega, by omega⟩, Int.toNat_natCast, hd]
      generalize w.getD k ⟨#[]⟩ = s at hsz ⊢
      unfold yef.f
      rw [if_pos hsz, yaf]
      dsimp only
      unfold numsOk numsV
      rw [List.all_cons, List.map_cons]
      cases hb : (numB s).2
      · rw [Bool.not_false, yau, Bool.false_and, if_neg (by simp)]
      · rw [Bool.not_true, yao, yaO (by omega), ybQ k (by omega), numbers_J hn2 hlen hs m (k + 1) _ (by omega) (by omega) (by rw [List.length_append, List.length_singleton]; omega), Bool.true_and]
        unfold numsOk numsV
        rw [List.append_assoc]; rfl
    · rw [decide_eq_false (by omega), yao, yck.e2, List.drop_eq_nil_of_le (by omega)]
      have : numsOk [] = true := rfl
      rw [if_pos this]
      unfold numsV
      rw [List.map_nil, List.append_nil]
theorem script_numbers {n : Nat} (hn2 : n ≤ 536870912) {w : List ByteArray} (hlen : w.length < n) (hs : ∀ s ∈ w, s.size ≤ 281474976710656) : yck.f n w = if numsOk w = true then some (numsV w, true, ()) else some ([], false, ()) := by
  have := numbers_J hn2 hlen hs n 0 [] (by omega) (by omega) rfl
  rw [yck.e0]
  exact this
theorem crash_J {n : Nat} (hn2 : n ≤ 536870912) {l : List Int} (hlen : l.length < n) (z : Act) (x y : Int) : ∀ (m k : Nat) (out : List Int), k ≤ l.length → l.length - k < m → out.length = k →
    yb6.J3 n m (l, ((l.length : Nat) : Int), (k : Int), z, (8, (qZ, (x, (y, (out, ()))))), ()) = some ((8, (qZ, (x, (y, (out ++ l.drop k, ()))))), true, ())
  | 0, k, out, _, h, _ => by omega
  | m + 1, k, out, hk, h, ho => by
    rw [yb6.e3, yaw]
    by_cases hlt : k < l.length
    · have hd : l.drop k = l.getD k 0 :: l.drop (k + 1) := by
        rw [List.drop_eq_getElem_cons hlt, List.getD_eq_getElem?_getD, List.getElem?_eq_getElem hlt]; rfl
      rw [decide_eq_true (by omega), yau, yaO ⟨by omega, by omega⟩, Int.toNat_natCast, hd]
      dsimp only
      rw [yaO (by omega), ybQ k (by omega)]
      have := crash_J hn2 hlen z x y m (k + 1) (out ++ [l.getD k 0]) (by omega) (by omega) (by rw [List.length_append, List.length_singleton]; omega)
      rw [List.append_assoc] at this
      exact this
    · rw [decide_eq_false (by omega), yao, yb6.e4, List.drop_eq_nil_of_le (by omega), List.append_nil]
noncomputable def crashS (l : List Int) : Act × Bool := if l.length < 2 ∨ l.getD 1 0 < 0 ∨ l.getD 1 0 > 255 then (actZ 0, false) else ((8, (qZ, (l.getD 1 0, (l.getD 0 0, (l.drop 2, ()))))), true)
theorem script_crash {n : Nat} (hn2 : n ≤ 536870912) {l : List Int} (hlen : l.length < n) : yb6.f n l = some ((crashS l).1, (crashS l).2, ()) := by
  rw [yb6.e0, yaw]
  unfold crashS
  by_cases h1 : l.length < 2
  · rw [decide_eq_true (by omega), yau, yb6.e1, yau, if_pos (.inl h1)]
  · rw [decide_eq_false (by omega), yao, yaO ⟨by omega, by omega⟩, yaw]
    by_cases h2 : l.getD 1 0 < 0
    · rw [decide_eq_true h2, yau, yb6.e1, yau, if_pos (.inr (.inl h2))]
    · rw [decide_eq_false h2, yao, yaO ⟨by omega, by omega⟩, yaw, yb6.e1]
      by_cases h3 : l.getD 1 0 > 255
      · rw [decide_eq_true h3, yau, if_pos (.inr (.inr h3))]
      · rw [decide_eq_false h3, yao, if_neg (by rintro (h | h | h) <;> omega), yb6.e2, yaO ⟨by omega, by omega⟩, yaO ⟨by omega, by omega⟩, yaO ⟨by omega, by omega⟩, yaO ⟨by omega, by omega⟩, Int.toNat_natCast, List.take_length]
        have := crash_J hn2 (l := l.drop 2) (by rw [List.length_drop]; omega) (actZ 0) (l.getD 1 0) (l.getD 0 0) n 0 [] (by omega) (by rw [List.length_drop]; omega) rfl
        rw [List.drop_zero, List.nil_append] at this
        exact this
abbrev lineA : ByteArray := ⟨#[99, 114, 97, 115, 104, 32, 49, 32, 53, 32, 50, 32, 48]⟩
theorem numB_d {s : ByteArray} {v : Int} (h1 : Lib.parseIntB 64 s.data.toList = .ok v) (h2 : itoaB v = s) : numB s = (v, true) := by
  unfold numB
  rw [h1]
  dsimp only
  rw [h2, ybO]
theorem actA {n : Nat} (hn : 300 ≤ n) (hn2 : n ≤ 536870912) : ybj.f n lineA = some ((8, (qZ, (5, (1, ([2, 0], ()))))), 0, ()) := by
  have hs : ycb.f lineA ⟨#[32]⟩ = some ([⟨#[99, 114, 97, 115, 104]⟩, ⟨#[49]⟩, ⟨#[53]⟩, ⟨#[50]⟩, ⟨#[48]⟩], ()) := by
    unfold ycb.f
    rw [if_pos ⟨by decide, by decide⟩, show Lib.splitB ⟨#[32]⟩ 0 (Lib.countB lineA ⟨#[32]⟩) lineA = [⟨#[99, 114, 97, 115, 104]⟩, ⟨#[49]⟩, ⟨#[53]⟩, ⟨#[50]⟩, ⟨#[48]⟩] by kernel_rfl]
  have n1 : numB ⟨#[49]⟩ = (1, true) := numB_d (by kernel_rfl) (itoa1 1 (by decide))
  have n5 : numB ⟨#[53]⟩ = (5, true) := numB_d (by kernel_rfl) (itoa1 5 (by decide))
  have n2 : numB ⟨#[50]⟩ = (2, true) := numB_d (by kernel_rfl) (itoa1 2 (by decide))
  have n0 : numB ⟨#[48]⟩ = (0, true) := numB_d (by kernel_rfl) (itoa1 0 (by decide))
  have ho : numsOk [⟨#[49]⟩, ⟨#[53]⟩, ⟨#[50]⟩, ⟨#[48]⟩] = true := by
    unfold numsOk
    simp only [List.all_cons, List.all_nil, n1, n5, n2, n0, Bool.and_self]
  have hv : numsV [⟨#[49]⟩, ⟨#[53]⟩, ⟨#[50]⟩, ⟨#[48]⟩] = [1, 5, 2, 0] := by
    unfold numsV
    simp only [List.map_cons, List.map_nil, n1, n5, n2, n0]
  have hnum := script_numbers hn2 (n := n) (w := [⟨#[49]⟩, ⟨#[53]⟩, ⟨#[50]⟩, ⟨#[48]⟩]) (by change 4 < n; omega) (by intro s hs; simp at hs; rcases hs with rfl | rfl | rfl | rfl <;> decide)
  rw [if_pos ho, hv] at hnum
  have hcr := script_crash hn2 (n := n) (l := [1, 5, 2, 0]) (by change 4 < n; omega)
  have hread : ybb.f n [⟨#[99, 114, 97, 115, 104]⟩, ⟨#[49]⟩, ⟨#[53]⟩, ⟨#[50]⟩, ⟨#[48]⟩] = some ((8, (qZ, (5, (1, ([2, 0], ()))))), true, ()) := by
    rw [ybb.e0]
    unfold ydh.f
    rw [yaf, yaO ⟨by decide, by decide⟩]
    change bIf (smGet wordsL ⟨#[99, 114, 97, 115, 104]⟩).2 _ _ = _
    rw [show (smGet wordsL ⟨#[99, 114, 97, 115, 104]⟩).2 = false by decide +kernel, yao, yaO ⟨by decide, by decide⟩, yaw]
    change bIf (eqS ⟨#[99, 114, 97, 115, 104]⟩ ⟨#[97, 115, 107]⟩) _ _ = _
    rw [show eqS ⟨#[99, 114, 97, 115, 104]⟩ ⟨#[97, 115, 107]⟩ = false by decide +kernel, yao, ybb.e1, yao, ybb.e2, yaO ⟨by decide, by decide⟩, yaO ⟨by decide, by decide⟩]
    change bnd (yck.f n [⟨#[49]⟩, ⟨#[53]⟩, ⟨#[50]⟩, ⟨#[48]⟩]) _ = _
    rw [hnum, yaf, Bool.not_true, yao, yaO ⟨by decide, by decide⟩, yaw]
    change bIf (eqS ⟨#[99, 114, 97, 115, 104]⟩ ⟨#[99, 114, 97, 115, 104]⟩) _ _ = _
    rw [ybO, yau]
    change bnd (yb6.f n [1, 5, 2, 0]) _ = _
    rw [hcr, yaf]
    unfold crashS
    rw [if_neg (by decide)]
    rfl
  rw [ybj.e0, hs, yaf]
  change bnd (ybb.f n [⟨#[99, 114, 97, 115, 104]⟩, ⟨#[49]⟩, ⟨#[53]⟩, ⟨#[50]⟩, ⟨#[48]⟩]) _ = _
  rw [hread, yaf]
  rfl
end Go.Proofs.YtdlkpmohjhjmfaaGreatDoor

namespace Go.Proofs.YtdlkpmohjhjmfaaGreatDoor
open Go Go.Va Go.Proofs
def bareB (a : Act) : Bool := sameQ a.2.1 qZ && ((a.2.2.1 == 0) && ((a.2.2.2.1 == 0) && (((a.2.2.2.2.1.length : Nat) : Int) == 0)))
theorem script_bare {n : Nat} (h3 : 300 ≤ n) (hn2 : n ≤ 536870912) {a : Act} (ha : QB n a.2.1) : ycF.f n a = some (bareB a, ()) := by
  rw [ycF.e0]
  change (bnd (yds.f n a.2.1 qZ) _) = _
  rw [wire_Same h3 hn2 ha]
  simp only [yaP, bnd_s, ycD]
  rfl
theorem sameQ_z : sameQ qZ qZ = true := by decide +kernel
theorem lineB {n : Nat} (hn : 300 ≤ n) (hn2 : n ≤ 536870912) : ydu.f n (3, (qZ, (-5, (0, ([], ()))))) = some (⟨#[99, 108, 111, 99, 107, 32, 45, 53]⟩, 0, ()) := by
  have h5 : itoaB (-5) = ⟨#[45, 53]⟩ := by
    rw [itoaB_neg (by decide), show (-5 : Int).natAbs = 5 from rfl, dd_small (by decide)]
    decide +kernel
  have hl : ydN.f n (3, (qZ, (-5, (0, ([], ()))))) = some ([⟨#[99, 108, 111, 99, 107]⟩, ⟨#[45, 53]⟩], true, ()) := by
    rw [ydN.e0]
    simp only [yaP]
    rw [show ((3 : Int) == 2) = false from rfl, bIf_f, show ((3 : Int) == 3) = true from rfl, bIf_t, fmt_ok (by unfold I64; decide), bnd_s]
    change (bnd (ycF.f n (3, (qZ, (0, (0, ([], ())))))) _) = _
    rw [script_bare hn hn2 (QB_z hn), bnd_s, h5]
    try dsimp only
    rw [show bareB (3, (qZ, (0, (0, ([], ()))))) = true by decide +kernel]
  rw [ydu.e0, hl, yaf, Bool.not_true, yao]
  unfold yey.f
  have hj : joinB [⟨#[99, 108, 111, 99, 107]⟩, ⟨#[45, 53]⟩] ⟨#[32]⟩ = [99, 108, 111, 99, 107, 32, 45, 53] := by decide +kernel
  dsimp only
  rw [hj, if_pos ⟨by decide, by decide⟩, yaf]
theorem act_word {n : Nat} {s : ByteArray} {k : Int} (h1 : s.size < 4294967281) (h2 : Lib.splitB ⟨#[32]⟩ 0 (Lib.countB s ⟨#[32]⟩) s = [s]) (h3 : smGet wordsL s = (k, true)) : ybj.f n s = some (actZ k, 0, ()) := by
  have hs : ycb.f s ⟨#[32]⟩ = some ([s], ()) := by
    unfold ycb.f
    rw [if_pos ⟨h1, by decide⟩, h2]
  have hr : ybb.f n [s] = some (actZ k, true, ()) := by
    rw [ybb.e0]
    unfold ydh.f
    rw [yaf, yaO ⟨by decide, by change (0 : Int) < 1; decide⟩]
    change bIf (smGet wordsL s).2 (some (((smGet wordsL s).1, _), hide _, ())) _ = _
    rw [h3, yau, yaw]
    rfl
  rw [ybj.e0, hs, yaf]
  change bnd (ybb.f n [s]) _ = _
  rw [hr, yaf]
  rfl
abbrev openB : ByteArray := ⟨#[111, 112, 101, 110]⟩
abbrev sweepB : ByteArray := ⟨#[115, 119, 101, 101, 112]⟩
abbrev textB : ByteArray := ⟨#[111, 112, 101, 110, 10, 115, 119, 101, 101, 112]⟩
theorem actsB {n : Nat} (hn : 300 ≤ n) : ybv.f n textB = some ([actZ 1, actZ 4], 0, 0, ()) := by
  have c1 : ydg.f textB ⟨#[10]⟩ = some (openB, sweepB, true, ()) := by
    unfold ydg.f
    rw [if_pos (by decide), show Lib.cut textB.data.toList (⟨#[10]⟩ : ByteArray).data.toList = ([111, 112, 101, 110], [115, 119, 101, 101, 112], true) by kernel_rfl]
  have c2 : ydg.f sweepB ⟨#[10]⟩ = some (sweepB, ⟨#[]⟩, false, ()) := by
    unfold ydg.f
    rw [if_pos (by decide), show Lib.cut sweepB.data.toList (⟨#[10]⟩ : ByteArray).data.toList = ([115, 119, 101, 101, 112], [], false) by kernel_rfl]
  have a1 : ybj.f n openB = some (actZ 1, 0, ()) := act_word (by decide) (by kernel_rfl) (by decide +kernel)
  have a2 : ybj.f n sweepB = some (actZ 4, 0, ()) := act_word (by decide) (by kernel_rfl) (by decide +kernel)
  have key : ∀ m, ybv.J1 n (m + 3) (textB, [], 1, ()) = some ([actZ 1, actZ 4], 0, 0, ()) := by
    intro m
    rw [ybv.e1, yaw, show (!eqS textB ⟨#[]⟩) = true by decide +kernel, yau, c1, yaf]
    dsimp only
    rw [a1, yaf, yaw]
    dsimp only
    rw [show ((0 : Int) != 0) = false from rfl, yao, yaO (by decide), ybv.e1, yaw, show (!eqS sweepB ⟨#[]⟩) = true by decide +kernel, yau, c2, yaf]
    dsimp only
    rw [a2, yaf, yaw]
    dsimp only
    rw [show ((0 : Int) != 0) = false from rfl, yao, yaO (by decide), ybv.e1, yaw, show (!eqS ⟨#[]⟩ ⟨#[]⟩) = false by decide +kernel, yao, ybv.e2, yaw, decide_eq_false (by decide), yao]
    rfl
  rw [ybv.e0, yaw, decide_eq_false (by decide), yao]
  have h3 := key (n - 3)
  rw [show n - 3 + 3 = n by omega] at h3
  exact h3
theorem awakeS {n : Nat} (hn : 300000 ≤ n) (hn2 : n ≤ 536870912) : yc3.f n = some (true, ()) := by
  have hr := script_Reply hn hn2 (RI_err (n := n) (by omega) 7) (by unfold I64; decide)
  have h7 : replyS (errRP 7) = ⟨#[101, 114, 114, 111, 114, 32, 55]⟩ := by
    unfold replyS
    rw [if_neg (by intro h; exact absurd h.1 (by decide))]
    change errB ++ itoaB ((7 : Nat) : Int) = _
    rw [itoa1 7 (by decide)]
    decide +kernel
  rw [h7] at hr
  rw [yc3.e0]
  change (bnd (ybj.f n lineA) fun u1 => bnd (ydu.f n (3, (qZ, (-5, (0, ([], ())))))) fun u2 => bnd (ybv.f n textB) _) = _
  rw [actA (by omega) hn2, yaf, lineB (by omega) hn2, yaf, actsB (by omega), yaf]
  simp only [yaP]
  try dsimp only
  rw [show ((0 : Int) == 0) = true from rfl, yau, yau, yau, yau, show ((1 : Int) == 1) = true from rfl, yau, show ((5 : Int) == 5) = true from rfl, yau]
  rw [show ((((([2, 0] : List Int).length : Nat) : Int)) == 2) = true from rfl, yau, ybO, yau, show ((((([actZ 1, actZ 4] : List Act).length : Nat) : Int)) == 2) = true from rfl, yau]
  change (bnd (ycl.f n (errRP 7)) _) = _
  rw [hr, yaf]
  dsimp only
  rw [ybO]
end Go.Proofs.YtdlkpmohjhjmfaaGreatDoor

namespace Go.Proofs.YtdlkpmohjhjmfaaGreatDoor
open Go Go.Va Go.Proofs
structure AI (n : Nat) (a : Act) : Prop where
  q : bdQ n a.2.1
  t : I64 a.2.2.1
  m : I64 a.2.2.2.1
  len : a.2.2.2.2.1.length + 2 < n
  ks : ∀ x ∈ a.2.2.2.2.1, I64 x
abbrev askW : ByteArray := ⟨#[97, 115, 107]⟩
abbrev clockW : ByteArray := ⟨#[99, 108, 111, 99, 107]⟩
abbrev failW : ByteArray := ⟨#[102, 97, 105, 108]⟩
abbrev crashW : ByteArray := ⟨#[99, 114, 97, 115, 104]⟩
abbrev xB : ByteArray := ⟨#[120]⟩
abbrev spB : ByteArray := ⟨#[32]⟩
noncomputable def linS (a : Act) : List ByteArray × Bool :=
  if a.1 = 2 then ([askW, xB ++ ybp (hexL (askS a.2.1).1)], ((askS a.2.1).2 == 0) && bareB (a.1, (qZ, a.2.2)))
  else if a.1 = 3 then ([clockW, itoaB a.2.2.1], bareB (a.1, (a.2.1, (0, a.2.2.2))))
  else if a.1 = 7 then ([failW, itoaB a.2.2.2.1], bareB (a.1, (a.2.1, (a.2.2.1, (0, a.2.2.2.2)))))
  else if a.1 = 8 then (crashW :: itoaB a.2.2.2.1 :: itoaB a.2.2.1 :: a.2.2.2.2.1.map itoaB, bareB (a.1, (a.2.1, (0, (0, ([], a.2.2.2.2.2))))) && (decide (a.2.2.1 ≥ 0) && decide (a.2.2.1 ≤ 255)))
  else ([wordB a.1], (!eqS (wordB a.1) ⟨#[]⟩) && bareB a)
noncomputable def joinT (l : List ByteArray) : ByteArray := ⟨(joinB l spB).toArray⟩
theorem ydK (s : ByteArray) : s.size = s.data.toList.length := size_eq s
end Go.Proofs.YtdlkpmohjhjmfaaGreatDoor

namespace Go.Proofs.YtdlkpmohjhjmfaaGreatDoor
open Go Go.Va Go.Proofs
theorem join2 (x y : List UInt8) (r : List (List UInt8)) (c : UInt8) : Lib.join (x :: y :: r) [c] = x ++ c :: Lib.join (y :: r) [c] := by
  rw [Lib.join_cons, Lib.join_cons]
  unfold Lib.joinTail
  simp
theorem index_split {l : List UInt8} {c : UInt8} {i : Nat} (h : Lib.index l [c] = i) : l = l.take i ++ c :: l.drop (i + 1) := by
  rcases Lib.index_spec l [c] with ⟨h1, _⟩ | ⟨j, h1, _, h2, _⟩
  · rw [h1] at h; exact absurd h (by omega)
  · obtain rfl : j = i := by rw [h1] at h; omega
    have h3 := Lib.occAt_head rfl h2
    obtain ⟨h4, h5⟩ := List.getElem?_eq_some_iff.1 h3
    have h6 := List.take_append_drop j l
    rw [List.drop_eq_getElem_cons h4, h5] at h6
    exact h6.symm
theorem splitK_ne (c : UInt8) (k : Nat) (l : List UInt8) : Lib.splitK [c] 0 k l ≠ [] := by
  cases k with
  | zero => exact List.cons_ne_nil _ _
  | succ k => unfold Lib.splitK; split <;> exact List.cons_ne_nil _ _
theorem splitK_join (c : UInt8) : ∀ (k : Nat) (l : List UInt8), Lib.join (Lib.splitK [c] 0 k l) [c] = l
  | 0, l => Lib.join_one l _
  | k + 1, l => by
    unfold Lib.splitK
    split
    · exact Lib.join_one l _
    · next h =>
      have hge := Lib.index_ge l [c]
      have hne : Lib.index l [c] ≠ -1 := fun e => h (beq_iff_eq.2 e)
      obtain ⟨i, hi⟩ : ∃ i : Nat, Lib.index l [c] = i := ⟨(Lib.index l [c]).toNat, by omega⟩
      have ih := splitK_join c k (l.drop (i + 1))
      rw [hi, Int.toNat_natCast, Nat.add_zero]
      change Lib.join (l.take i :: Lib.splitK [c] 0 k (l.drop (i + 1))) [c] = l
      cases hs : Lib.splitK [c] 0 k (l.drop (i + 1)) with
      | nil => exact absurd hs (splitK_ne c k _)
      | cons y r => rw [join2, ← hs, ih]; exact (index_split hi).symm
noncomputable def splitW (s : ByteArray) : List ByteArray := Lib.splitB spB 0 (Lib.countB s spB) s
theorem data_inj : Function.Injective (fun s : ByteArray => s.data.toList) := fun a b h => ByteArray.ext (Array.toList_inj.1 h)
theorem split_join (s : ByteArray) : joinT (splitW s) = s := by
  unfold joinT joinB splitW
  rw [show (Lib.splitB spB 0 (Lib.countB s spB) s).map (fun s => s.data.toList) = _ from Lib.splitB_data spB 0 _ s]
  rw [show spB.data.toList = [32] from rfl, splitK_join]
theorem split_ne (s : ByteArray) : ∃ x l, splitW s = x :: l := by
  unfold splitW
  generalize Lib.countB s spB = k
  cases k with
  | zero => exact ⟨_, _, rfl⟩
  | succ k => unfold Lib.splitB; split <;> exact ⟨_, _, rfl⟩
theorem split_len (s : ByteArray) : (splitW s).length ≤ s.size + 1 := by
  have h1 := Lib.splitB_length_le spB 0 (Lib.countB s spB) s
  have h2 := Lib.countB_le spB (by decide) s.size s (Nat.le_refl _)
  unfold splitW
  omega
theorem join_mem {w : ByteArray} {x : ByteArray} {l : List ByteArray} (h : w ∈ x :: l) : w.size ≤ (joinT (x :: l)).size := by
  have e : (joinT (x :: l)).size = x.size + (Lib.joinTail [32] (l.map (·.data.toList))).length := by
    unfold joinT joinB
    rw [List.map_cons, Lib.join_cons, ydK, ydK, ← List.length_append]
  rw [e]
  rcases List.mem_cons.1 h with rfl | h
  · omega
  · have : ∀ l : List ByteArray, w ∈ l → w.size ≤ (Lib.joinTail [32] (l.map (·.data.toList))).length := by
      intro l
      induction l with
      | nil => intro h; cases h
      | cons y l ih =>
        intro h
        unfold Lib.joinTail at ih ⊢
        rw [List.map_cons, List.map_cons, List.flatten_cons, List.length_append, List.length_append]
        rcases List.mem_cons.1 h with rfl | h
        · rw [ydK]; omega
        · have := ih h; omega
    have := this l h
    omega
theorem split_size (s : ByteArray) : ∀ w ∈ splitW s, w.size ≤ s.size := fun w hw => by
  obtain ⟨x, l, e⟩ := split_ne s
  have h := join_mem (e ▸ hw)
  rwa [← e, split_join] at h
theorem numB_back {s : ByteArray} (h : (numB s).2 = true) : itoaB (numB s).1 = s ∧ I64 (numB s).1 := by
  unfold numB at h ⊢
  rcases hp : Lib.parseIntB 64 s.data.toList with v | _ | _
  · rw [hp] at h
    have hb := Lib.parseIntB_bounds hp
    refine ⟨eqS_eq' h, ?_⟩
    dsimp only
    constructor <;> omega
  · rw [hp] at h; exact nomatch h
  · rw [hp] at h; exact nomatch h
theorem bt16_ix : ∀ c : Fin 256, 0 ≤ ix H16 ((c : Nat) : Int) → bt H16 (ix H16 ((c : Nat) : Int)) = ((c : Nat) : Int) := by decide +kernel
theorem bt16_ix' {c : Int} (h : 0 ≤ c ∧ c ≤ 255) (hx : 0 ≤ ix H16 c) : bt H16 (ix H16 c) = c := by
  have := bt16_ix ⟨c.toNat, by omega⟩
  simp only [show ((c.toNat : Nat) : Int) = c by omega] at this
  exact this hx
def unhex : List Int → Option (List Int)
  | a :: b :: r => if ix H16 a < 0 then none else if ix H16 b < 0 then none else (unhex r).map fun l => (ix H16 a * 16 + ix H16 b) :: l
  | [_] => none
  | [] => some []
def back (o : Option (List Int)) : List Int × Int × Unit :=
  match o with
  | some l => (l, 0, ())
  | none => ([], 5, ())
def pre (p : List Int) (o : Option (List Int)) : Option (List Int) := o.map (p ++ ·)
theorem byte_of {a b : Int} (ha : 0 ≤ a ∧ a < 16) (hb : 0 ≤ b ∧ b < 16) : IntKind.u8.wrap (bitI .or .i64 (shlI .i64 a 4) b) = a * 16 + b := by
  have e : shlI .i64 a 4 = a * 2 ^ 4 := by
    unfold shlI
    change IntKind.i64.wrap (a * 2 ^ 4) = _
    exact ydo (by omega)
  rw [e, or_low (by omega) ha.1 hb.1 (by change a * 2 ^ 4 + b < 2 ^ 63; omega), wrap_u8 (by omega)]
  omega
theorem unhex_J {n : Nat} (s : ByteArray) (hs : s.size ≤ 70368744177664) (he : s.size % 2 = 0) : ∀ (m k : Nat) (out : List Int), 2 * k ≤ s.size → s.size - 2 * k < 2 * m → out.length = k →
    yct.J1 n m (s, out, ((2 * k : Nat) : Int), ()) = some (back (pre out (unhex ((ybJ s).drop (2 * k)))))
  | 0, k, out, _, h, _ => by omega
  | m + 1, k, out, hk, h, hl => by
    have hsz := size_of s
    rw [yct.e1, yaP]
    by_cases hlt : 2 * k < s.size
    · rw [decide_eq_true (by omega), yau, yaO ⟨by omega, by omega⟩]
      have hd : (ybJ s).drop (2 * k) = (ybJ s).getD (2 * k) 0 :: (ybJ s).getD (2 * k + 1) 0 :: (ybJ s).drop (2 * k + 1 + 1) := by
        rw [getD_drop (by omega), getD_drop (k := 2 * k + 1) (by omega)]
      rw [ydo (by omega)]
      have e1 : bt s ((2 * k : Nat) : Int) = (ybJ s).getD (2 * k) 0 := by rw [bt_getD, Int.toNat_natCast]
      have e2 : bt s (((2 * k : Nat) : Int) + 1) = (ybJ s).getD (2 * k + 1) 0 := by
        rw [bt_getD]; congr 1
      have h1 : ybY.f H16 (bt s ((2 * k : Nat) : Int)) = some (ix H16 ((ybJ s).getD (2 * k) 0), ()) := by rw [e1]; rfl
      have h2 : ybY.f H16 (bt s (((2 * k : Nat) : Int) + 1)) = some (ix H16 ((ybJ s).getD (2 * k + 1) 0), ()) := by rw [e2]; rfl
      rw [h1, yaf, yaO ⟨by omega, by omega⟩, h2, yaf, hd, yaP, yaP]
      have ra := ix_range H16 ((ybJ s).getD (2 * k) 0)
      have rb := ix_range H16 ((ybJ s).getD (2 * k + 1) 0)
      have h16 : (H16.size : Int) = 16 := rfl
      unfold unhex
      dsimp only
      by_cases ha : ix H16 ((ybJ s).getD (2 * k) 0) < 0
      · rw [decide_eq_true ha, yau, if_pos ha]; rfl
      · rw [decide_eq_false ha, yao, if_neg ha]
        by_cases hb : ix H16 ((ybJ s).getD (2 * k + 1) 0) < 0
        · rw [decide_eq_true hb, yau, if_pos hb]; rfl
        · rw [decide_eq_false hb, yao, if_neg hb, yct.e2, yeF (by decide), yaO (by omega), yct.e3, ydo (by omega), byte_of (by omega) (by omega)]
          have ih := unhex_J (n := n) s hs he m (k + 1) (out ++ [ix H16 ((ybJ s).getD (2 * k) 0) * 16 + ix H16 ((ybJ s).getD (2 * k + 1) 0)]) (by omega) (by omega) (by simp [hl])
          rw [show ((2 * (k + 1) : Nat) : Int) = ((2 * k : Nat) : Int) + 2 by omega] at ih
          rw [ih]
          rw [show 2 * (k + 1) = 2 * k + 1 + 1 by omega]
          congr 2
          unfold pre
          cases unhex ((ybJ s).drop (2 * k + 1 + 1)) <;> simp
    · rw [decide_eq_false (by omega), yao, yct.e4]
      rw [List.drop_of_length_le (by omega)]
      simp [unhex, pre, back]
theorem unhex_odd : ∀ (l : List Int), l.length % 2 = 1 → unhex l = none
  | [], h => by simp at h
  | [_], _ => rfl
  | a :: b :: r, h => by
    unfold unhex
    rw [unhex_odd r (by simp at h; omega)]
    simp
theorem alpha_Unhex {n : Nat} {s : ByteArray} (hs : s.size ≤ 70368744177664) (hn : s.size < 2 * n) : yct.f n s = some (back (unhex (ybJ s))) := by
  have hsz := size_of s
  have hm : Int.tmod (s.size : Int) 2 = ((s.size % 2 : Nat) : Int) := by rw [Int.tmod_eq_emod_of_nonneg (by omega)]; omega
  rw [yct.e0, yeF (by decide), hm, yaP]
  by_cases h : s.size % 2 = 0
  · rw [h, show (((0 : Nat) : Int) != 0) = false from rfl, yao]
    have := unhex_J (n := n) s hs h n 0 [] (by omega) (by omega) rfl
    rw [Nat.mul_zero, List.drop_zero] at this
    refine Eq.trans this ?_
    unfold pre
    cases unhex (ybJ s) <;> simp
  · rw [show (((s.size % 2 : Nat) : Int) != 0) = true by simp; omega, yau, unhex_odd _ (by omega)]; rfl
theorem hex_unhex : ∀ (l p : List Int), BY l → unhex l = some p → hexL p = l ∧ BY p ∧ p.length * 2 = l.length
  | [], p, _, h => by unfold unhex at h; injection h with h; subst h; exact ⟨rfl, ydC, rfl⟩
  | [_], p, _, h => by unfold unhex at h; exact nomatch h
  | a :: b :: r, p, hb, h => by
    have ha := hb a List.mem_cons_self
    have hbb := hb b (List.mem_cons_of_mem _ List.mem_cons_self)
    have ra := ix_range H16 a
    have rb := ix_range H16 b
    have h16 : (H16.size : Int) = 16 := rfl
    unfold unhex at h
    split at h
    · cases h
    · rename_i h1
      split at h
      · cases h
      · rename_i h2
        obtain ⟨p', h', rfl⟩ := Option.map_eq_some_iff.1 h
        obtain ⟨i1, i2, i3⟩ := hex_unhex r p' (fun x hx => hb x (List.mem_cons_of_mem _ (List.mem_cons_of_mem _ hx))) h'
        refine ⟨?_, fun x hx => ?_, ?_⟩
        · change bt H16 ((ix H16 a * 16 + ix H16 b) / 16) :: bt H16 ((ix H16 a * 16 + ix H16 b) % 16) :: hexL p' = _
          rw [i1, show (ix H16 a * 16 + ix H16 b) / 16 = ix H16 a by omega, show (ix H16 a * 16 + ix H16 b) % 16 = ix H16 b by omega, bt16_ix' ha (by omega), bt16_ix' hbb (by omega)]
        · rcases List.mem_cons.1 hx with rfl | hx
          · omega
          · exact i2 x hx
        · rw [List.length_cons, List.length_cons, List.length_cons, ← i3]; omega
end Go.Proofs.YtdlkpmohjhjmfaaGreatDoor

namespace Go.Proofs.YtdlkpmohjhjmfaaGreatDoor
open Go Go.Va Go.Proofs
def sameA (a b : Act) : Bool := (a.1 == b.1) && ((a.2.2.1 == b.2.2.1) && ((a.2.2.2.1 == b.2.2.2.1) && (sameQ a.2.1 b.2.1 && allB sameI a.2.2.2.2.1 b.2.2.2.2.1)))
theorem same_J {n : Nat} (hn2 : n ≤ 536870912) {a b : Act} (ha : a.2.2.2.2.1.length < n) (hl : a.2.2.2.2.1.length = b.2.2.2.2.1.length) : ∀ (m k : Nat), k ≤ a.2.2.2.2.1.length → a.2.2.2.2.1.length - k < m →
    ycN.J2 n m ((k : Int), a, b, ()) = some (allB sameI (a.2.2.2.2.1.drop k) (b.2.2.2.2.1.drop k), ())
  | 0, k, _, h => by omega
  | m + 1, k, hk, h => by
    rw [ycN.e2, yaP]
    by_cases hlt : k < a.2.2.2.2.1.length
    · have hlt2 : k < b.2.2.2.2.1.length := by omega
      have hd : ∀ l : List Int, k < l.length → l.drop k = l.getD k 0 :: l.drop (k + 1) := fun l h => getD_drop h
      rw [decide_eq_true (by omega), yau, yaO ⟨by omega, by omega⟩, yaO ⟨by omega, by omega⟩, Int.toNat_natCast, yaP, hd _ hlt, hd _ hlt2]
      unfold allB
      cases he : ((a.2.2.2.2.1.getD k 0) == (b.2.2.2.2.1.getD k 0))
      · rw [bne, he, Bool.not_false, yau, show sameI (a.2.2.2.2.1.getD k 0) (b.2.2.2.2.1.getD k 0) = false from he, Bool.false_and]
      · rw [bne, he, Bool.not_true, yao, show sameI (a.2.2.2.2.1.getD k 0) (b.2.2.2.2.1.getD k 0) = true from he, Bool.true_and, ybQ k (by omega)]
        exact same_J hn2 ha hl m (k + 1) (by omega) (by omega)
    · rw [decide_eq_false (by omega), yao, ycN.e3, List.drop_eq_nil_of_le (by omega), List.drop_eq_nil_of_le (by omega)]
      rfl
theorem allB_nlen : ∀ (x y : List Int), x.length ≠ y.length → allB sameI x y = false
  | [], [], h => absurd rfl h
  | [], _ :: _, _ => rfl
  | _ :: _, [], _ => rfl
  | a :: x, b :: y, h => by
    unfold allB
    rw [allB_nlen x y (fun e => h (by rw [List.length_cons, List.length_cons, e])), Bool.and_false]
theorem law_same {n : Nat} (h3 : 300 ≤ n) (hn2 : n ≤ 536870912) {a b : Act} (hq : QB n a.2.1) (ha : a.2.2.2.2.1.length < n) : ycN.f n a b = some (sameA a b, ()) := by
  rw [ycN.e0, yaP, yaP, yaP, yaP]
  unfold sameA
  cases h1 : (a.1 == b.1)
  · rw [bne, h1, Bool.not_false, yau, Bool.false_and]
  rw [bne, h1, Bool.not_true, yao, Bool.true_and]
  cases h2 : (a.2.2.1 == b.2.2.1)
  · rw [bne, h2, Bool.not_false, yau, Bool.false_and]
  rw [bne, h2, Bool.not_true, yao, Bool.true_and]
  cases h4 : (a.2.2.2.1 == b.2.2.2.1)
  · rw [bne, h4, Bool.not_false, yau, Bool.false_and]
  rw [bne, h4, Bool.not_true, yao, Bool.true_and, ref26_Same h3 hn2 hq, yaf]
  cases h5 : sameQ a.2.1 b.2.1
  · rw [Bool.not_false, yau, Bool.false_and]
  rw [Bool.not_true, yao, Bool.true_and]
  by_cases hl : a.2.2.2.2.1.length = b.2.2.2.2.1.length
  · rw [show (((a.2.2.2.2.1.length : Nat) : Int) != ((b.2.2.2.2.1.length : Nat) : Int)) = false by rw [hl]; simp, yao, ycN.e1]
    have := same_J hn2 ha hl n 0 (by omega) (by omega)
    rw [List.drop_zero, List.drop_zero] at this
    exact this
  · rw [show (((a.2.2.2.2.1.length : Nat) : Int) != ((b.2.2.2.2.1.length : Nat) : Int)) = true by simp; omega, yau, allB_nlen _ _ hl]
theorem sameA_refl (a : Act) : sameA a a = true := by
  unfold sameA
  rw [sameQ_refl, allB_refl (q := sameI) _ (fun x _ => (beq_self_eq_true x : (x == x) = true))]
  simp only [beq_self_eq_true, Bool.and_true]
theorem cutX {n : Nat} (s : ByteArray) (hs : s.size ≤ 4611686018427387904) : ycE.f n s xB = some (if s.data.toList.head? = some 120 then (⟨s.data.toList.tail.toArray⟩, true, ()) else (s, false, ())) := by
  have h1 : ((xB.size : Nat) : Int) = 1 := rfl
  have hp : ybm.f n s xB = some (decide (s.data.toList.head? = some 120), ()) := by
    rw [ybm.e0, yaP, h1]
    by_cases h : 1 ≤ s.size
    · rw [decide_eq_true (by omega), yau, yaO ⟨by decide, by omega⟩, yaO ⟨by decide, by decide⟩, yaP, eqS_eq, ba_beq]
      congr 2
      have hc : ∃ c r, s.data.toList = c :: r := by
        cases hl : s.data.toList with
        | nil => rw [ydK, hl] at h; exact absurd h (by decide)
        | cons c r => exact ⟨c, r, rfl⟩
      obtain ⟨c, r, hl⟩ := hc
      rw [decide_eq_decide, hl]
      have he : (s.extract 0 ((1 : Int).toNat)).data.toList = [c] := by
        rw [show ((1 : Int).toNat) = 1 from rfl, Lib.extract_from_zero, hl]; rfl
      constructor
      · intro e
        rw [e] at he
        have he : [(120 : UInt8)] = [c] := he
        injection he with he
        rw [← he]; rfl
      · intro e
        have e : some c = some (120 : UInt8) := e
        injection e with e
        apply data_inj
        change (s.extract 0 ((1 : Int).toNat)).data.toList = _
        rw [he, e]
    · rw [decide_eq_false (by omega), yao]
      have : s.data.toList = [] := List.eq_nil_of_length_eq_zero (by rw [← ydK]; omega)
      rw [this]; rfl
  rw [ycE.e0, ybA.e0, hp, yaf]
  dsimp only
  by_cases h : s.data.toList.head? = some 120
  · have hc : 1 ≤ s.size := by
      cases hl : s.data.toList with
      | nil => rw [hl] at h; exact nomatch h
      | cons c r => rw [ydK, hl, List.length_cons]; omega
    rw [decide_eq_true h, Bool.not_true, yao, yaO ⟨by omega, by omega⟩, yaO ⟨by decide, by omega⟩, yaf, if_pos h, h1]
    dsimp only
    congr 2
    apply data_inj
    change (s.extract ((1 : Int).toNat) ((s.size : Int).toNat)).data.toList = s.data.toList.tail
    rw [show ((1 : Int).toNat) = 1 from rfl, Int.toNat_natCast, Lib.extract_to_end]
    exact (List.drop_one).symm ▸ rfl
  · rw [decide_eq_false h, Bool.not_false, yau, yaf, if_neg h]
theorem ask_any {n : Nat} (hn : 30000 ≤ n) (hn2 : n ≤ 536870912) (s : ByteArray) (hs : s.size < n) : ∃ b ok, ydl.f n s = some (b, ok, ()) ∧
    (ok = true → b.2.2 = (0, (0, ([], ()))) ∧ b.1 = 2 ∧ bdQ n b.2.1 ∧ (askS b.2.1).2 = 0 ∧ s = xB ++ ybp (hexL (askS b.2.1).1)) := by
  rw [ydl.e0, cutX s (by omega), yaf]
  have key : ∀ (h : ByteArray) (c : Bool), h.size ≤ s.size → (c = true → s = xB ++ h) →
      ∃ b ok, (bnd (yct.f n h) fun u2 => bnd (ybK.f n u2.1) fun u3 => bIf c (bIf ((hide (u2.2.1 == (0 : Int)))) (bIf ((hide (u3.2.1 == (0 : Int)))) (bnd (yay.f n u3.1) fun u4 => some (((2, (u3.1, (0, (0, ([], ()))))) : Act), u4.1, ())) (some ((2, (u3.1, (0, (0, ([], ()))))), false, ()))) (some ((2, (u3.1, (0, (0, ([], ()))))), false, ()))) (some ((2, (u3.1, (0, (0, ([], ()))))), false, ()))) = some (b, ok, ()) ∧
      (ok = true → b.2.2 = (0, (0, ([], ()))) ∧ b.1 = 2 ∧ bdQ n b.2.1 ∧ (askS b.2.1).2 = 0 ∧ s = xB ++ ybp (hexL (askS b.2.1).1)) := by
    intro h c hsz hx
    rw [alpha_Unhex (by omega) (by omega), yaf]
    have hby : BY (ybJ h) := fun x hx => ofBytes_range hx
    have hsz2 := size_of h
    cases hu : unhex (ybJ h) with
    | none =>
      unfold back
      dsimp only
      rcases asked_reads hn hn2 (BB_nil (n := n) (by omega)) with h1 | ⟨x, h1, _⟩
      · rw [h1, yaf, yaP, show ((5 : Int) == 0) = false from rfl, yao]
        cases c <;> exact ⟨_, false, rfl, fun h => nomatch h⟩
      · rw [h1, yaf, yaP, show ((5 : Int) == 0) = false from rfl, yao]
        cases c <;> exact ⟨_, false, rfl, fun h => nomatch h⟩
    | some p =>
      obtain ⟨i1, i2, i3⟩ := hex_unhex _ _ hby hu
      unfold back
      dsimp only
      rcases asked_reads hn hn2 (b := p) ⟨by omega, i2⟩ with h1 | ⟨x, h1, h2, h3, h4⟩
      · rw [h1, yaf, yaP, yaP, show ((0 : Int) == 0) = true from rfl, yau, show ((2 : Int) == 0) = false from rfl, yao]
        cases c <;> exact ⟨_, false, rfl, fun h => nomatch h⟩
      · rw [h1, yaf]
        rw [yaP, show ((0 : Int) == 0) = true from rfl, yau, yau]
        dsimp only
        rw [acts_Good (by omega) hn2 h2.1, yaf]
        obtain ⟨g1, g2⟩ := askS_ok h3
        rw [g1]
        cases c
        · exact ⟨_, false, rfl, fun h => nomatch h⟩
        · refine ⟨_, true, rfl, fun _ => ⟨rfl, rfl, h2, h3, ?_⟩⟩
          change s = xB ++ ybp (hexL (askS x).1)
          rw [g2, h4, i1, bytesOf_ofBytes]
          exact hx rfl
  by_cases h : s.data.toList.head? = some 120
  · rw [if_pos h]
    obtain ⟨c, r, hl⟩ : ∃ c r, s.data.toList = c :: r := by
      cases hl : s.data.toList with
      | nil => rw [hl] at h; exact nomatch h
      | cons c r => exact ⟨c, r, rfl⟩
    rw [hl] at h
    have h : some c = some (120 : UInt8) := h
    injection h with h
    refine key ⟨s.data.toList.tail.toArray⟩ true ?_ (fun _ => ?_)
    · rw [ydK, ydK s, hl]; simp
    · apply data_inj
      change s.data.toList = (xB ++ ⟨s.data.toList.tail.toArray⟩).data.toList
      rw [ByteArray.data_append, Array.toList_append, hl, h]; rfl
  · rw [if_neg h]
    exact key s false (Nat.le_refl _) (fun h => nomatch h)
end Go.Proofs.YtdlkpmohjhjmfaaGreatDoor

namespace Go.Proofs.YtdlkpmohjhjmfaaGreatDoor
open Go Go.Va Go.Proofs
abbrev actT (v : Int) : Act := (3, (qZ, (v, (0, ([], ())))))
abbrev actN (v : Int) : Act := (7, (qZ, (0, (v, ([], ())))))
noncomputable def numS (w0 : ByteArray) (r : List ByteArray) : Act × Bool :=
  if numsOk r = true then
    if eqS w0 crashW = true then crashS (numsV r)
    else if r.length = 1 then
      if eqS w0 clockW = true then (actT ((numsV r).getD 0 0), true)
      else if eqS w0 failW = true then (actN ((numsV r).getD 0 0), true)
      else (actZ 0, false)
    else (actZ 0, false)
  else (actZ 0, false)
theorem numsV_len (r : List ByteArray) : (numsV r).length = r.length := by unfold numsV; rw [List.length_map]
theorem read_J2 {n : Nat} (hn2 : n ≤ 536870912) {w0 : ByteArray} {r : List ByteArray} (hlen : r.length < n) (hs : ∀ s ∈ r, s.size ≤ 281474976710656) (b2 : Act) :
    ybb.J2 n (w0 :: r, b2, ()) = some ((numS w0 r).1, (numS w0 r).2, ()) := by
  have hl : (((w0 :: r).length : Nat) : Int) = (r.length : Int) + 1 := by rw [List.length_cons]; omega
  have ht : ((w0 :: r).take ((((w0 :: r).length : Nat) : Int)).toNat).drop 1 = r := by rw [Int.toNat_natCast, List.take_length]; rfl
  have hg : List.getD (w0 :: r) 0 (⟨#[]⟩ : ByteArray) = w0 := rfl
  have h0 : 0 ≤ (0 : Int) ∧ (0 : Int) < (((w0 :: r).length : Nat) : Int) := ⟨by decide, by omega⟩
  have hv := numsV_len r
  rw [ybb.e2, yaO ⟨by omega, by omega⟩, yaO ⟨by decide, by omega⟩, ht, script_numbers hn2 hlen hs]
  unfold numS
  by_cases h1 : numsOk r = true
  · rw [if_pos h1, if_pos h1, yaf]
    dsimp only
    rw [Bool.not_true, yao, yaO h0, hg, yaP]
    cases h2 : eqS w0 crashW
    · rw [yao, if_neg (by decide), yaP]
      by_cases h3 : r.length = 1
      · rw [show (((numsV r).length : Nat) : Int) = 1 by omega, show ((1 : Int) != 1) = false from rfl, yao, if_pos h3, yaO h0, yaP]
        cases h4 : eqS w0 clockW
        · rw [yao, if_neg (by decide), yaO h0, yaP]
          cases h5 : eqS w0 failW
          · rw [yao, if_neg (by decide)]
          · rw [yau, if_pos rfl, yaO ⟨by decide, by decide⟩]
        · rw [yau, if_pos rfl, yaO ⟨by decide, by decide⟩]
      · rw [show ((((numsV r).length : Nat) : Int) != 1) = true by simp; omega, yau, if_neg h3]
    · rw [yau, if_pos rfl, script_crash hn2 (by omega), yaf]
  · rw [if_neg h1, if_neg h1, yaf]
    rfl
theorem read_word {n : Nat} {w0 : ByteArray} {r : List ByteArray} (h : (smGet wordsL w0).2 = true) : ybb.f n (w0 :: r) = some (actZ (smGet wordsL w0).1, decide (r.length = 0), ()) := by
  have hl : (((w0 :: r).length : Nat) : Int) = (r.length : Int) + 1 := by rw [List.length_cons]; omega
  rw [ybb.e0]
  unfold ydh.f
  rw [yaf, yaO ⟨by decide, by omega⟩]
  change bIf (smGet wordsL w0).2 (some (actZ (smGet wordsL w0).1, hide _, ())) _ = _
  rw [h, yau, yaP]
  congr 3
  by_cases h0 : r.length = 0
  · rw [decide_eq_true h0, beq_iff_eq]; omega
  · rw [decide_eq_false h0, beq_eq_false_iff_ne]; omega
theorem read_ask {n : Nat} {x : ByteArray} {b : Act} {ok : Bool} (h : ydl.f n x = some (b, ok, ())) : ybb.f n [askW, x] = some (b, ok, ()) := by
  have h0 : 0 ≤ (0 : Int) ∧ (0 : Int) < ((([askW, x] : List ByteArray).length : Nat) : Int) := ⟨by decide, show (0 : Int) < 2 by decide⟩
  have h1 : 0 ≤ (1 : Int) ∧ (1 : Int) < ((([askW, x] : List ByteArray).length : Nat) : Int) := ⟨by decide, show (1 : Int) < 2 by decide⟩
  rw [ybb.e0]
  unfold ydh.f
  rw [yaf, yaO h0]
  change bIf (smGet wordsL askW).2 _ _ = _
  rw [show (smGet wordsL askW).2 = false by decide +kernel, yao, yaO h0, yaP]
  change bIf (eqS askW askW) _ _ = _
  rw [ybO, yau, yaP]
  change ybb.J1 n ([askW, x], true, actZ 0, ()) = _
  rw [ybb.e1, yau, yaO h1]
  change (bnd (ydl.f n x) _) = _
  rw [h, yaf]
theorem read_num {n : Nat} (hn2 : n ≤ 536870912) {w0 : ByteArray} {r : List ByteArray} (hlen : r.length < n) (hs : ∀ s ∈ r, s.size ≤ 281474976710656)
    (h1 : (smGet wordsL w0).2 = false) (h2 : eqS w0 askW = false ∨ r.length ≠ 1) : ybb.f n (w0 :: r) = some ((numS w0 r).1, (numS w0 r).2, ()) := by
  have hl : (((w0 :: r).length : Nat) : Int) = (r.length : Int) + 1 := by rw [List.length_cons]; omega
  have h0 : 0 ≤ (0 : Int) ∧ (0 : Int) < (((w0 :: r).length : Nat) : Int) := ⟨by decide, by omega⟩
  rw [ybb.e0]
  unfold ydh.f
  rw [yaf, yaO h0]
  change bIf (smGet wordsL w0).2 _ _ = _
  rw [h1, yao, yaO h0, yaP]
  have key : ybb.J1 n (w0 :: r, false, actZ 0, ()) = some ((numS w0 r).1, (numS w0 r).2, ()) := by
    rw [ybb.e1, yao]
    exact read_J2 hn2 hlen hs _
  change bIf (eqS w0 askW) _ _ = _
  cases h3 : eqS w0 askW
  · rw [yao]; exact key
  · rw [yau, yaP]
    have h4 : r.length ≠ 1 := by
      rcases h2 with h2 | h2
      · rw [h3] at h2; exact nomatch h2
      · exact h2
    rw [show ((((w0 :: r).length : Nat) : Int) == 2) = false from beq_eq_false_iff_ne.2 (by omega)]
    exact key
theorem word_cases {s : ByteArray} (h : (smGet wordsL s).2 = true) : ∃ k, (k = 1 ∨ k = 4 ∨ k = 5 ∨ k = 6) ∧ (smGet wordsL s).1 = k ∧ s = wordB k := by
  unfold wordsL at h ⊢
  unfold smGet at h ⊢
  by_cases h1 : eqS s ⟨#[111, 112, 101, 110]⟩ = true
  · rw [if_pos h1]; exact ⟨1, .inl rfl, rfl, eqS_eq' h1⟩
  rw [if_neg h1] at h ⊢
  unfold smGet at h ⊢
  by_cases h2 : eqS s ⟨#[115, 119, 101, 101, 112]⟩ = true
  · rw [if_pos h2]; exact ⟨4, .inr (.inl rfl), rfl, eqS_eq' h2⟩
  rw [if_neg h2] at h ⊢
  unfold smGet at h ⊢
  by_cases h3 : eqS s ⟨#[99, 111, 108, 108, 101, 99, 116]⟩ = true
  · rw [if_pos h3]; exact ⟨5, .inr (.inr (.inl rfl)), rfl, eqS_eq' h3⟩
  rw [if_neg h3] at h ⊢
  unfold smGet at h ⊢
  by_cases h4 : eqS s ⟨#[99, 104, 101, 99, 107]⟩ = true
  · rw [if_pos h4]; exact ⟨6, .inr (.inr (.inr rfl)), rfl, eqS_eq' h4⟩
  rw [if_neg h4] at h
  unfold smGet at h
  exact nomatch h
theorem bdQ_z {n : Nat} (h : 300 ≤ n) : bdQ n qZ := by
  have h0 : 0 < n := by omega
  exact mkQ (by change 0 < n; omega) (by change 0 < n; omega) h0 U64_0 ⟨h0, ydC⟩ ⟨h0, by intro t ht; exact nomatch ht⟩ I64_0 ⟨h0, by intro t ht; exact nomatch ht⟩ ⟨h0, by intro t ht; exact nomatch ht⟩ ⟨Nat.zero_le 16, by intro t ht; exact nomatch ht⟩ h0 h0 h0 h0 h0 U64_0 h
theorem AI_of {n : Nat} (h : 300 ≤ n) {k : Int} {q : Q} {t m : Int} {l : List Int} (hq : bdQ n q) (ht : I64 t) (hm : I64 m) (hl : l.length + 2 < n) (hk : ∀ x ∈ l, I64 x) : AI n (k, (q, (t, (m, (l, ()))))) := ⟨hq, ht, hm, hl, hk⟩
theorem nums_back {r : List ByteArray} (h : numsOk r = true) : r = (numsV r).map itoaB ∧ ∀ x ∈ numsV r, I64 x := by
  unfold numsOk at h
  rw [List.all_eq_true] at h
  unfold numsV
  refine ⟨?_, fun x hx => ?_⟩
  · rw [List.map_map]
    conv => lhs; rw [← List.map_id r]
    exact List.map_congr_left fun s hs => ((numB_back (h s hs)).1).symm
  · obtain ⟨s, hs, rfl⟩ := List.mem_map.1 hx
    exact (numB_back (h s hs)).2
theorem bare0 (k : Int) : bareB (k, (qZ, (0, (0, ([], ()))))) = true := by
  unfold bareB
  rw [show sameQ qZ qZ = true from sameQ_z]
  rfl
theorem read_any {n : Nat} (hn : 30000 ≤ n) (hn2 : n ≤ 536870912) {w0 : ByteArray} {r : List ByteArray} (hlen : r.length < n) (hs : ∀ s ∈ w0 :: r, s.size < n) :
    ∃ b ok, ybb.f n (w0 :: r) = some (b, ok, ()) ∧ (ok = true → AI n b ∧ linS b = (w0 :: r, true)) := by
  cases h1 : (smGet wordsL w0).2
  · by_cases h2 : eqS w0 askW = true ∧ r.length = 1
    · obtain ⟨h2, h3⟩ := h2
      obtain rfl := eqS_eq' h2
      obtain ⟨x, rfl⟩ := List.length_eq_one_iff.1 h3
      obtain ⟨b, ok, h4, h5⟩ := ask_any hn hn2 x (hs x (by simp))
      refine ⟨b, ok, read_ask h4, fun ho => ?_⟩
      obtain ⟨g1, g2, g3, g4, g5⟩ := h5 ho
      obtain ⟨k, q, t⟩ := b
      dsimp only at g1 g2 g3 g4 g5
      subst g1 g2
      refine ⟨AI_of (by omega) g3 I64_0 I64_0 (by change 0 + 2 < n; omega) (fun x hx => nomatch hx), ?_⟩
      unfold linS
      rw [if_pos rfl]
      dsimp only
      rw [g4, bare0 2, ← g5]
      rfl
    · have h3 : eqS w0 askW = false ∨ r.length ≠ 1 := by
        cases h : eqS w0 askW
        · exact .inl rfl
        · exact .inr fun e => h2 ⟨h, e⟩
      have hr : ∀ s ∈ r, s.size ≤ 281474976710656 := fun s h => by have := hs s (List.mem_cons_of_mem _ h); omega
      refine ⟨_, _, read_num hn2 hlen hr h1 h3, fun ho => ?_⟩
      unfold numS at ho ⊢
      have hv := numsV_len r
      by_cases g1 : numsOk r = true
      · obtain ⟨i1, i2⟩ := nums_back g1
        rw [if_pos g1] at ho ⊢
        by_cases g2 : eqS w0 crashW = true
        · rw [if_pos g2] at ho ⊢
          obtain rfl := eqS_eq' g2
          unfold crashS at ho ⊢
          by_cases g3 : (numsV r).length < 2 ∨ (numsV r).getD 1 0 < 0 ∨ (numsV r).getD 1 0 > 255
          · rw [if_pos g3] at ho; exact nomatch ho
          · rw [if_neg g3]
            obtain ⟨x, y, l, e⟩ : ∃ x y l, numsV r = x :: y :: l := by
              cases h : numsV r with
              | nil => rw [h] at g3; exact absurd (.inl (by decide)) g3
              | cons x l => cases l with
                | nil => rw [h] at g3; exact absurd (.inl (show 1 < 2 by decide)) g3
                | cons y l => exact ⟨x, y, l, rfl⟩
            rw [e] at g3 i1 i2 hv ⊢
            have k1 : ¬ y < 0 := fun h => g3 (.inr (.inl h))
            have k2 : ¬ y > 255 := fun h => g3 (.inr (.inr h))
            rw [List.length_cons, List.length_cons] at hv
            refine ⟨AI_of (by omega) (bdQ_z (by omega)) (i2 y (by simp)) (i2 x (by simp)) (by change l.length + 2 < n; omega) (fun z hz => i2 z (List.mem_cons_of_mem _ (List.mem_cons_of_mem _ hz))), ?_⟩
            unfold linS
            rw [if_neg (show ¬ (8 : Int) = 2 by decide), if_neg (show ¬ (8 : Int) = 3 by decide), if_neg (show ¬ (8 : Int) = 7 by decide), if_pos rfl]
            change (crashW :: itoaB x :: itoaB y :: l.map itoaB, bareB (8, (qZ, (0, (0, ([], ()))))) && (decide (y ≥ 0) && decide (y ≤ 255))) = _
            rw [bare0 8, decide_eq_true (by omega), decide_eq_true (by omega), i1]
            rfl
        · rw [if_neg g2] at ho ⊢
          by_cases g3 : r.length = 1
          · rw [if_pos g3] at ho ⊢
            obtain ⟨x, e⟩ := List.length_eq_one_iff.1 (hv.trans g3)
            rw [e] at i1 i2 ho ⊢
            by_cases g4 : eqS w0 clockW = true
            · rw [if_pos g4]
              obtain rfl := eqS_eq' g4
              refine ⟨AI_of (by omega) (bdQ_z (by omega)) (i2 x (by simp)) I64_0 (by change 0 + 2 < n; omega) (fun z hz => nomatch hz), ?_⟩
              unfold linS
              rw [if_neg (show ¬ (3 : Int) = 2 by decide), if_pos rfl]
              change ([clockW, itoaB x], bareB (3, (qZ, (0, (0, ([], ())))))) = _
              rw [bare0 3, i1]
              rfl
            · rw [if_neg g4] at ho ⊢
              by_cases g5 : eqS w0 failW = true
              · rw [if_pos g5]
                obtain rfl := eqS_eq' g5
                refine ⟨AI_of (by omega) (bdQ_z (by omega)) I64_0 (i2 x (by simp)) (by change 0 + 2 < n; omega) (fun z hz => nomatch hz), ?_⟩
                unfold linS
                rw [if_neg (show ¬ (7 : Int) = 2 by decide), if_neg (show ¬ (7 : Int) = 3 by decide), if_pos rfl]
                change ([failW, itoaB x], bareB (7, (qZ, (0, (0, ([], ())))))) = _
                rw [bare0 7, i1]
                rfl
              · rw [if_neg g5] at ho; exact nomatch ho
          · rw [if_neg g3] at ho; exact nomatch ho
      · rw [if_neg g1] at ho; exact nomatch ho
  · refine ⟨_, _, read_word h1, fun ho => ?_⟩
    have h0 : r = [] := List.eq_nil_of_length_eq_zero (of_decide_eq_true ho)
    subst h0
    obtain ⟨k, hk, e1, rfl⟩ := word_cases h1
    rw [e1]
    refine ⟨AI_of (by omega) (bdQ_z (by omega)) I64_0 I64_0 (by change 0 + 2 < n; omega) (fun z hz => nomatch hz), ?_⟩
    unfold linS
    rcases hk with rfl | rfl | rfl | rfl <;>
    · rw [if_neg (by decide), if_neg (by decide), if_neg (by decide), if_neg (by decide)]
      rw [bare0]
      exact congrArg (fun x => (_, x)) (by decide +kernel)
theorem act_any {n : Nat} (hn : 30000 ≤ n) (hn2 : n ≤ 536870912) {s : ByteArray} (hs : s.size < n) :
    ybj.f n s = some (actZ 0, 5, ()) ∨ ∃ b, ybj.f n s = some (b, 0, ()) ∧ AI n b ∧ (linS b).2 = true ∧ joinT (linS b).1 = s := by
  have hsp : ycb.f s ⟨#[32]⟩ = some (splitW s, ()) := by
    unfold ycb.f
    rw [if_pos ⟨by omega, by decide⟩]; rfl
  obtain ⟨x, l, e⟩ := split_ne s
  have h1 := split_len s
  have h2 := split_size s
  rw [e] at h1 h2
  rw [List.length_cons] at h1
  obtain ⟨b, ok, h3, h4⟩ := read_any hn hn2 (w0 := x) (r := l) (by omega) (fun w hw => by have := h2 w hw; omega)
  rw [ybj.e0, hsp, yaf]
  dsimp only
  rw [e, h3, yaf]
  cases ok
  · exact .inl rfl
  · obtain ⟨h5, h6⟩ := h4 rfl
    refine .inr ⟨b, rfl, h5, by rw [h6], ?_⟩
    rw [h6, ← e, split_join]
end Go.Proofs.YtdlkpmohjhjmfaaGreatDoor

namespace Go.Proofs.YtdlkpmohjhjmfaaGreatDoor
open Go Go.Va Go.Proofs
end Go.Proofs.YtdlkpmohjhjmfaaGreatDoor

namespace Go.Proofs.YtdlkpmohjhjmfaaGreatDoor
open Go Go.Va Go.Proofs
def fi : List UInt8 → Nat
  | [] => 0
  | x :: r => if x = 10 then 0 else fi r + 1
theorem fi_le : ∀ l : List UInt8, fi l ≤ l.length
  | [] => Nat.le_refl 0
  | x :: r => by
    unfold fi
    have := fi_le r
    split
    · exact Nat.zero_le _
    · rw [List.length_cons]; omega
theorem fi_index : ∀ l : List UInt8, (Lib.index l [10] = -1 ∧ fi l = l.length) ∨ Lib.index l [10] = ((fi l : Nat) : Int)
  | [] => .inl ⟨rfl, rfl⟩
  | x :: r => by
    unfold fi Lib.index
    by_cases h : x = 10
    · subst h
      exact .inr (by rw [if_pos rfl]; simp [List.isPrefixOf])
    · have hp : ([10] : List UInt8).isPrefixOf (x :: r) = false := by simp [List.isPrefixOf, Ne.symm h]
      rw [hp, if_neg (by decide), if_neg h]
      rcases fi_index r with ⟨h1, h2⟩ | h1
      · rw [h1]; exact .inl ⟨rfl, by rw [h2, List.length_cons]⟩
      · rw [h1]
        refine .inr ?_
        rw [show (((fi r : Nat) : Int) == -1) = false from beq_eq_false_iff_ne.2 (by omega), if_neg (by decide)]
        omega
theorem cut_fi (l : List UInt8) : (Lib.cut l [10]).1 = l.take (fi l) ∧ (Lib.cut l [10]).2.1 = l.drop (fi l + 1) := by
  unfold Lib.cut
  rcases fi_index l with ⟨h1, h2⟩ | h1
  · rw [h1, if_neg (by decide), h2, List.take_length, List.drop_eq_nil_of_le (by omega)]; exact ⟨rfl, rfl⟩
  · rw [h1, if_pos (by omega), Int.toNat_natCast]; exact ⟨rfl, rfl⟩
def lnsL : Nat → List UInt8 → List (List UInt8)
  | 0, _ => []
  | m + 1, l => if l = [] then [] else l.take (fi l) :: lnsL m (l.drop (fi l + 1))
noncomputable def actV (n : Nat) (s : ByteArray) : Act × Int := match ybj.f n s with
  | some (b, e, _) => (b, e)
  | none => (actZ 0, 5)
theorem actV_is {n : Nat} (hn : 30000 ≤ n) (hn2 : n ≤ 536870912) {s : ByteArray} (hs : s.size < n) : ybj.f n s = some ((actV n s).1, (actV n s).2, ()) ∧ ((actV n s).2 = 5 ∨ ((actV n s).2 = 0 ∧ AI n (actV n s).1)) := by
  unfold actV
  rcases act_any hn hn2 hs with h | ⟨b, h1, h2, _⟩
  · rw [h]; exact ⟨rfl, .inl rfl⟩
  · rw [h1]; exact ⟨rfl, .inr ⟨rfl, h2⟩⟩
noncomputable def actsS (n : Nat) : List Act → List (List UInt8) → List Act × Int × Int
  | out, [] => if out.length > 4096 then ([], 0, 9) else (out, 0, 0)
  | out, x :: ls => if (actV n ⟨x.toArray⟩).2 = 0 then actsS n (out ++ [(actV n ⟨x.toArray⟩).1]) ls else ([], (out.length : Int) + 1, 5)
theorem acts_J {n : Nat} (hn : 30000 ≤ n) (hn2 : n ≤ 536870912) : ∀ (m : Nat) (r : ByteArray) (out : List Act), r.size < m → r.size < n → out.length + r.size ≤ 65536 →
    ybv.J1 n m (r, out, (out.length : Int) + 1, ()) = some ((actsS n out (lnsL m r.data.toList)).1, (actsS n out (lnsL m r.data.toList)).2.1, (actsS n out (lnsL m r.data.toList)).2.2, ())
  | 0, r, out, h, _, _ => by omega
  | m + 1, r, out, h, hrn, hb => by
    rw [ybv.e1, yaP]
    unfold lnsL
    by_cases h0 : r.data.toList = []
    · have hr : r = ⟨#[]⟩ := data_inj h0
      rw [hr, ybO, Bool.not_true, yao, ybv.e2, yaP, if_pos rfl]
      unfold actsS
      by_cases h1 : out.length > 4096
      · rw [decide_eq_true (by omega), yau, if_pos h1]
      · rw [decide_eq_false (by omega), yao, if_neg h1]
    · have hne : eqS r ⟨#[]⟩ = false := by
        cases he : eqS r ⟨#[]⟩
        · rfl
        · exact absurd (by rw [eqS_eq' he]) h0
      have hsz := ydK r
      have hpos : 0 < r.data.toList.length := List.length_pos_iff.2 h0
      have hcut : ydg.f r ⟨#[10]⟩ = some (⟨(r.data.toList.take (fi r.data.toList)).toArray⟩, ⟨(r.data.toList.drop (fi r.data.toList + 1)).toArray⟩, (Lib.cut r.data.toList [10]).2.2, ()) := by
        unfold ydg.f
        obtain ⟨c1, c2⟩ := cut_fi r.data.toList
        rw [if_pos (by omega), show (⟨#[10]⟩ : ByteArray).data.toList = [10] from rfl, c1, c2]
      rw [hne, Bool.not_false, yau, hcut, yaf, if_neg h0]
      dsimp only
      have hxs : (⟨(r.data.toList.take (fi r.data.toList)).toArray⟩ : ByteArray).size < n := by
        rw [ydK]
        change (r.data.toList.take (fi r.data.toList)).length < n
        rw [List.length_take]; omega
      obtain ⟨a1, a2⟩ := actV_is hn hn2 hxs
      rw [a1, yaf, yaP]
      unfold actsS
      rcases a2 with a2 | ⟨a2, a3⟩
      · dsimp only
        rw [a2, show ((5 : Int) != 0) = true from rfl, yau, if_neg (by decide)]
      · dsimp only
        rw [a2, show ((0 : Int) != 0) = false from rfl, yao, if_pos rfl, yaO (by omega)]
        have hl : (⟨(r.data.toList.drop (fi r.data.toList + 1)).toArray⟩ : ByteArray).size < r.size := by
          rw [ydK, hsz]
          change (r.data.toList.drop (fi r.data.toList + 1)).length < _
          rw [List.length_drop]; omega
        have ih := acts_J hn hn2 m ⟨(r.data.toList.drop (fi r.data.toList + 1)).toArray⟩ (out ++ [(actV n ⟨(r.data.toList.take (fi r.data.toList)).toArray⟩).1]) (by omega) (by omega) (by rw [List.length_append, List.length_singleton]; omega)
        rw [ydo (by omega)]
        rw [List.length_append, List.length_singleton, show (((out.length + 1 : Nat) : Int)) + 1 = (out.length : Int) + 1 + 1 by omega] at ih
        exact ih
theorem acts_pre {n : Nat} : ∀ (ls : List (List UInt8)) (out : List Act), (actsS n out ls).2.2 = 0 → ∃ more, (actsS n out ls).1 = out ++ more
  | [], out, h => by
    unfold actsS at h ⊢
    split at h
    · exact absurd h (by decide)
    · next h1 => rw [if_neg h1]; exact ⟨[], (List.append_nil _).symm⟩
  | x :: ls, out, h => by
    unfold actsS at h ⊢
    split at h
    · next h1 =>
      rw [if_pos h1]
      obtain ⟨more, e⟩ := acts_pre ls _ h
      exact ⟨_ :: more, by rw [e, List.append_assoc]; rfl⟩
    · exact absurd h (show ¬ (5 : Int) = 0 by decide)
noncomputable def findS (n : Nat) (l : List Act) (k e : Int) : Nat → List (List UInt8) → Bool
  | at_, [] => if at_ > 4096 then (e == 9) && ((k == 0) && (((l.length : Nat) : Int) == 0)) else (e == 0) && ((k == 0) && (((l.length : Nat) : Int) == (at_ : Int)))
  | at_, x :: ls => if (actV n ⟨x.toArray⟩).2 = 0 then
      if e = 0 then (if at_ < l.length then sameA (actV n ⟨x.toArray⟩).1 (l.getD at_ (Va.dflt ybe)) && findS n l k e (at_ + 1) ls else false) else findS n l k e (at_ + 1) ls
    else (e == 5) && ((k == (at_ : Int) + 1) && (((l.length : Nat) : Int) == 0))
theorem find_acts {n : Nat} : ∀ (ls : List (List UInt8)) (out : List Act), findS n (actsS n out ls).1 (actsS n out ls).2.1 (actsS n out ls).2.2 out.length ls = true
  | [], out => by
    unfold findS actsS
    by_cases h : out.length > 4096
    · rw [if_pos h, if_pos h]; rfl
    · rw [if_neg h, if_neg h]; simp
  | x :: ls, out => by
    unfold findS
    by_cases h : (actV n ⟨x.toArray⟩).2 = 0
    · have e : actsS n out (x :: ls) = actsS n (out ++ [(actV n ⟨x.toArray⟩).1]) ls := by
        conv => lhs; unfold actsS
        rw [if_pos h]
      rw [e, if_pos h]
      have ih := find_acts (n := n) ls (out ++ [(actV n ⟨x.toArray⟩).1])
      rw [List.length_append, List.length_singleton] at ih
      by_cases h1 : (actsS n (out ++ [(actV n ⟨x.toArray⟩).1]) ls).2.2 = 0
      · obtain ⟨more, e1⟩ := acts_pre ls _ h1
        rw [if_pos h1, ih]
        have e2 : (actsS n (out ++ [(actV n ⟨x.toArray⟩).1]) ls).1.getD out.length (Va.dflt ybe) = (actV n ⟨x.toArray⟩).1 := by
          rw [e1, List.append_assoc, List.getD_eq_getElem?_getD, List.getElem?_append_right (Nat.le_refl _), Nat.sub_self]; rfl
        rw [e2, sameA_refl, e1, if_pos (by rw [List.length_append, List.length_append, List.length_singleton]; omega)]
        rfl
      · rw [if_neg h1, ih]
    · have e : actsS n out (x :: ls) = ([], (out.length : Int) + 1, 5) := by
        unfold actsS; rw [if_neg h]
      rw [e, if_neg h]
      simp
theorem find_end {n : Nat} {s : ByteArray} (hs : s.size ≤ 1048576 * 4) (m1 : Nat) (l : List Act) (k e : Int) (a f : Int) : ∀ (m i : Nat), i ≤ s.size → s.size - i < m →
    ya3.J2 n m1 m (s, l, k, e, a, f, (i : Int), ()) = ya3.J4 n m1 (s, l, k, e, a, f, ((i + fi (s.data.toList.drop i) : Nat) : Int), ())
  | 0, i, _, h => by omega
  | m + 1, i, hi, h => by
    have hsz := ydK s
    rw [ya3.e2, yaP]
    by_cases hlt : i < s.size
    · rw [decide_eq_true (by omega), yau, yaO ⟨by omega, by omega⟩, yaP]
      have hd : s.data.toList.drop i = s.data.toList[i] :: s.data.toList.drop (i + 1) := List.drop_eq_getElem_cons (by omega)
      have hbt : bt s (i : Int) = (s.data.toList[i].toNat : Int) := by
        unfold bt
        rw [Int.toNat_natCast, List.getD_eq_getElem?_getD, List.getElem?_eq_getElem (by omega)]; rfl
      rw [hbt, hd]
      unfold fi
      by_cases h10 : s.data.toList[i] = 10
      · rw [h10, if_pos rfl, show ((((10 : UInt8).toNat : Nat) : Int) != 10) = false from rfl, yao, Nat.add_zero]
      · have hne : ((s.data.toList[i].toNat : Nat) : Int) ≠ 10 := fun e => h10 (UInt8.toNat_inj.1 (by change _ = 10; omega))
        rw [if_neg h10, show (((s.data.toList[i].toNat : Nat) : Int) != 10) = true by rw [bne, beq_eq_false_iff_ne.2 hne]; rfl, yau, ya3.e3, ybQ i (by omega), find_end hs m1 l k e a f m (i + 1) (by omega) (by omega)]
        rw [show i + 1 + fi (s.data.toList.drop (i + 1)) = i + (fi (s.data.toList.drop (i + 1)) + 1) by omega]
    · rw [decide_eq_false (by omega), yao, List.drop_eq_nil_of_le (by omega)]
      unfold fi
      rw [Nat.add_zero]
theorem ext_list (s : ByteArray) (a b : Nat) : s.extract a b = ⟨((s.data.toList.drop a).take (b - a)).toArray⟩ := by
  apply data_inj
  change (s.extract a b).data.toList = (s.data.toList.drop a).take (b - a)
  rw [Lib.extract_data]
theorem finds_J {n : Nat} (hn : 300000 ≤ n) (hn2 : n ≤ 1048576 * 4) {s : ByteArray} (hs : s.size ≤ 65536) (l : List Act) (k e : Int) : ∀ (m a f : Nat), f ≤ s.size + 1 → s.size - f < m → a + (s.size - f) ≤ 65536 →
    ya3.J1 n m (s, l, k, e, (a : Int), (f : Int), ()) = some (findS n l k e a (lnsL m (s.data.toList.drop f)), ())
  | 0, a, f, _, h, _ => by omega
  | m + 1, a, f, hf, h, hb => by
    have hsz := ydK s
    rw [ya3.e1, yaP]
    unfold lnsL
    by_cases hlt : f < s.size
    · have hne : s.data.toList.drop f ≠ [] := by
        intro e
        have := congrArg List.length e
        rw [List.length_drop, List.length_nil] at this
        omega
      have hfi := fi_le (s.data.toList.drop f)
      rw [List.length_drop] at hfi
      rw [decide_eq_true (by omega), yau, find_end (by omega) m l k e _ _ n f (by omega) (by omega), ya3.e4, yaO ⟨by omega, by omega⟩, yaO ⟨by omega, by omega⟩, if_neg hne, Int.toNat_natCast, Int.toNat_natCast, ext_list, show f + fi (s.data.toList.drop f) - f = fi (s.data.toList.drop f) by omega]
      have hxs : (⟨((s.data.toList.drop f).take (fi (s.data.toList.drop f))).toArray⟩ : ByteArray).size < n := by
        rw [ydK]
        change ((s.data.toList.drop f).take (fi (s.data.toList.drop f))).length < n
        rw [List.length_take]; omega
      obtain ⟨a1, a2⟩ := actV_is (n := n) (by omega) (by omega) hxs
      unfold findS
      have ih := finds_J hn hn2 hs l k e m (a + 1) (f + fi (s.data.toList.drop f) + 1) (by omega) (by omega) (by omega)
      rw [← List.drop_drop, ← List.drop_drop] at ih
      have h5 : ya3.J5 n m (s, l, k, e, ((a + 1 : Nat) : Int), ((f + fi (s.data.toList.drop f) : Nat) : Int), ()) = some (findS n l k e (a + 1) (lnsL m (((s.data.toList.drop f).drop (fi (s.data.toList.drop f))).drop 1)), ()) := by
        rw [ya3.e5, ybQ _ (by omega), ih]
      rw [List.drop_drop] at h5
      generalize (⟨((s.data.toList.drop f).take (fi (s.data.toList.drop f))).toArray⟩ : ByteArray) = x at a1 a2 hxs ⊢
      rw [a1, yaf, yaP]
      dsimp only
      rw [ydo (x := (a : Int) + 1) (by omega), show (a : Int) + 1 = ((a + 1 : Nat) : Int) by omega]
      rcases a2 with a2 | ⟨a2, a3⟩
      · rw [a2, show ((5 : Int) != 0) = true from rfl, yau, awakeS hn (by omega), yaf, yau, yaP, yaP, yaP, if_neg (by decide)]
        cases (e == 5) <;> cases (k == ((a + 1 : Nat) : Int)) <;> simp [yec]
      · rw [a2, show ((0 : Int) != 0) = false from rfl, yao, if_pos rfl, yaP]
        by_cases h0 : e = 0
        · rw [show (e == 0) = true from beq_iff_eq.2 h0, yau, if_pos h0, yaP]
          by_cases h1 : a < l.length
          · rw [decide_eq_false (by omega), yao, if_pos h1, ydo (x := ((a + 1 : Nat) : Int) - 1) (by omega), show ((a + 1 : Nat) : Int) - 1 = (a : Int) by omega, yaO ⟨by omega, by omega⟩, Int.toNat_natCast, Nat.zero_add]
            have hz := law_same (n := n) (a := (actV n x).1) (b := l.getD a (Va.dflt ybe)) (by omega) (by omega) a3.q.1 (by have := a3.len; omega)
            change (bnd (ycN.f n (actV n x).1 (l.getD a (Va.dflt ybe))) _) = _
            rw [hz, yaf]
            dsimp only
            cases sameA (actV n x).1 (l.getD a (Va.dflt ybe))
            · rw [Bool.not_false, yau, Bool.false_and]
            · rw [Bool.not_true, yao, Bool.true_and, h5]
          · rw [decide_eq_true (by omega), yau, if_neg h1]
        · rw [show (e == 0) = false from beq_eq_false_iff_ne.2 h0, yao, if_neg h0, h5]
    · rw [decide_eq_false (by omega), yao, List.drop_eq_nil_of_le (by omega), if_pos rfl, ya3.e6, yaP]
      unfold findS
      by_cases h1 : a > 4096
      · rw [decide_eq_true (by omega), yau, if_pos h1, awakeS hn (by omega), yaf, yau, yaP, yaP, yaP]
        cases (e == 9) <;> cases (k == 0) <;> simp [yec]
      · rw [decide_eq_false (by omega), yao, if_neg h1, awakeS hn (by omega), yaf, yau, yaP, yaP, yaP]
        cases (e == 0) <;> cases (k == 0) <;> simp [yec]
theorem lawFinds {n : Nat} (hn : 300000 ≤ n) (hn2 : n ≤ 1048576 * 4) {s : ByteArray} (hs : s.size < n) : ya3.f n s = some (true, ()) := by
  rw [ya3.e0, ybv.e0, yaP]
  by_cases h : s.size > 65536
  · rw [decide_eq_true (by omega), yau, yaf, yau, awakeS hn (by omega), yaf, yau, yaP, yaP, yaP]
    rfl
  · rw [decide_eq_false (by omega), yao]
    have h1 := acts_J (n := n) (by omega) (by omega) n s [] (by omega) hs (by change 0 + s.size ≤ 65536; omega)
    rw [show (([] : List Act).length : Int) + 1 = 1 from rfl] at h1
    rw [h1, yaf, yao]
    dsimp only
    have h2 := finds_J hn hn2 (s := s) (by omega) (actsS n [] (lnsL n s.data.toList)).1 (actsS n [] (lnsL n s.data.toList)).2.1 (actsS n [] (lnsL n s.data.toList)).2.2 n 0 0 (by omega) (by omega) (by omega)
    rw [List.drop_zero] at h2
    rw [show ((0 : Nat) : Int) = 0 from rfl] at h2
    rw [h2]
    exact congrArg (fun x => some (x, ())) (find_acts (lnsL n s.data.toList) [])
end Go.Proofs.YtdlkpmohjhjmfaaGreatDoor

namespace Go.Proofs.YtdlkpmohjhjmfaaGreatDoor
open Go Go.Va Go.Proofs Go.ChangeShapes Go.WideShapes Go.ChangeAt Go.RowKit
theorem S_ofW {n : Nat} {s : ByteArray} (h : vol .str s < n) : s.size < n := Nat.lt_of_succ_lt h
theorem noHandle {W : World} (h : laidMetH Tryz.prog laidAll W) : laidMet Tryz.prog laidAll W := by
  have e : (laidAll.filter fun x => x.2.handleName?.isSome) = [] := by kernel_rfl
  unfold laidMetH at h
  rw [e] at h
  exact h
end Go.Proofs.YtdlkpmohjhjmfaaGreatDoor

