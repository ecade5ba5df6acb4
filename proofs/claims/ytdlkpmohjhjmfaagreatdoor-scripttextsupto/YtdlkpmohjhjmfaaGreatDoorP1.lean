/-
  The plain laws.
-/
import Derived.Test.YtdlkpmohjhjmfaaGreatDoorP0
import Derived.Test.YtdlkpmohjhjmfaaGreatDoorF0
import Derived.Test.YtdlkpmohjhjmfaaGreatDoorF1
import Derived.Test.YtdlkpmohjhjmfaaGreatDoorRows
import Derived.Test.YtdlkpmohjhjmfaaGreatDoorCards
import Derived.Test.YtdlkpmohjhjmfaaGreatDoorTie
import Derived.JoinedCond
import Derived.ChangeCalls
import Derived.Lib.LaidIn
import Derived.Lib.LaidU8T
import Derived.Deep.DeepHandedRow
import Derived.ProofKit
import Derived.HandedShaped
import Derived.Shelf.Vars
import Derived.Lib.LaidTab
import Derived.Stop.LaidErr
import Derived.Stop.ErrReads
import Derived.Lib.SplitLaws
import Derived.Lib.ParseIntBTie
set_option linter.unusedVariables false
set_option linter.unusedSimpArgs false
namespace Go.Proofs.YtdlkpmohjhjmfaaGreatDoor
open Go Go.Va Go.Proofs
theorem yed {n:Nat}{s:ByteArray}(hs:s.size<8)(hn:300≤n)(c:Nat)(hc:c<256):yaU.f n s (c:Int)=some (inB s c,()):=by
 have hl:s.data.toList.length=s.size:=rfl
 have:=all_loop (l:=s.data.toList) 0 (λb=>!decide (b=UInt8.ofNat c)) (λm k=>yaU.J1 n m (s,(c:Int),k,())) (some (false,())) (some (true,()))
  (λm k hk=>by
   try dsimp only
   rw[yaU.e1,yap,decide_eq_true (by omega),yaq,yar ⟨by omega,by omega⟩,bt_nat,yap,u8_eq hc,ybp k (by omega)]
   cases decide (_=UInt8.ofNat c)<;>rfl)
  (λm=>by
   try dsimp only
   rw[yaU.e1,yap,decide_eq_false (by omega),yaj,yaU.e2]) n 0 (by omega) (by omega)
 rw[yaU.e0]
 try dsimp only at this
 rw[show ((0:Nat):Int)=0 from rfl]at this
 rw[this,List.drop_zero]
 unfold inB
 rw[← List.not_any_eq_all_not]
 cases List.any _ _<;>rfl
theorem ref24_name {n:Nat}(h3:300≤n)(hn2:n≤536870912){s:ByteArray}(h:s.size<n):ydi.f n s=some (nameB s,()):=by
 rw[ydi.e0,clean44 (by omega) h (by omega)]
 simp only[yap,yab,yck]
 rw[show (200:Int)=((200:Nat):Int) from rfl,dec_cast];rfl
theorem emp3 {n:Nat}(h3:300≤n){o:ByteArray}(ho:o.size<8)(A:Q)(a:Bool):ycz.J3 n (o,a,A,())=some (a&&((inB o 112||eqS A.2.2.2.2.2.2.2.2.2.2.2.2.2.2.2.1 ⟨#[]⟩)&&((inB o 109||eqS A.2.2.2.2.2.2.2.2.2.2.2.2.2.2.2.2.1 ⟨#[]⟩)&&((inB o 102||eqD ya0 A.2.2.2.2.2.2.2.2.2.2.2.2.2.2.2.2.2.1 spotZ)&&((inB o 120||(A.2.2.2.2.2.2.2.2.2.2.2.2.2.2.2.2.2.2.1==0)))))),()):=by
 have i0:=yed (s:=o) ho h3 112 (by decide)
 have i1:=yed (s:=o) ho h3 109 (by decide)
 have i2:=yed (s:=o) ho h3 102 (by decide)
 have i3:=yed (s:=o) ho h3 120 (by decide)
 rw[ycz.e3]
 simp only[show (112:Int)=((112:Nat):Int) from rfl,show (109:Int)=((109:Nat):Int) from rfl,show (102:Int)=((102:Nat):Int) from rfl,show (120:Int)=((120:Nat):Int) from rfl,i0,i1,i2,i3,bnd_s,yaJ]
 generalize inB o 112=x0
 generalize eqS A.2.2.2.2.2.2.2.2.2.2.2.2.2.2.2.1 ⟨#[]⟩=z0
 generalize inB o 109=x1
 generalize eqS A.2.2.2.2.2.2.2.2.2.2.2.2.2.2.2.2.1 ⟨#[]⟩=z1
 generalize inB o 102=x2
 generalize eqD ya0 A.2.2.2.2.2.2.2.2.2.2.2.2.2.2.2.2.2.1 _=z2
 generalize inB o 120=x3
 generalize (A.2.2.2.2.2.2.2.2.2.2.2.2.2.2.2.2.2.2.1==0)=z3
 cases a<;>cases x0<;>cases z0<;>cases x1<;>cases z1<;>cases x2<;>cases z2<;>cases x3<;>cases z3<;>rfl
theorem emp2 {n:Nat}(h3:300≤n){o:ByteArray}(ho:o.size<8)(A:Q)(a:Bool):ycz.J2 n (o,a,A,())=ycz.J3 n (o,a&&((inB o 103||(((A.2.2.2.2.2.2.2.2.2.2.2.1.length:Nat):Int)==0))&&((inB o 110||(A.2.2.2.2.2.2.2.2.2.2.2.2.1==0))&&((inB o 78||(((A.2.2.2.2.2.2.2.2.2.2.2.2.2.1.length:Nat):Int)==0))&&((inB o 97||eqS A.2.2.2.2.2.2.2.2.2.2.2.2.2.2.1 ⟨#[]⟩))))),A,()):=by
 have i0:=yed (s:=o) ho h3 103 (by decide)
 have i1:=yed (s:=o) ho h3 110 (by decide)
 have i2:=yed (s:=o) ho h3 78 (by decide)
 have i3:=yed (s:=o) ho h3 97 (by decide)
 rw[ycz.e2]
 simp only[show (103:Int)=((103:Nat):Int) from rfl,show (110:Int)=((110:Nat):Int) from rfl,show (78:Int)=((78:Nat):Int) from rfl,show (97:Int)=((97:Nat):Int) from rfl,i0,i1,i2,i3,bnd_s,yaJ]
 generalize inB o 103=x0
 generalize (((A.2.2.2.2.2.2.2.2.2.2.2.1.length:Nat):Int)==0)=z0
 generalize inB o 110=x1
 generalize (A.2.2.2.2.2.2.2.2.2.2.2.2.1==0)=z1
 generalize inB o 78=x2
 generalize (((A.2.2.2.2.2.2.2.2.2.2.2.2.2.1.length:Nat):Int)==0)=z2
 generalize inB o 97=x3
 generalize eqS A.2.2.2.2.2.2.2.2.2.2.2.2.2.2.1 ⟨#[]⟩=z3
 cases a<;>cases x0<;>cases z0<;>cases x1<;>cases z1<;>cases x2<;>cases z2<;>cases x3<;>cases z3<;>rfl
theorem emp1 {n:Nat}(h3:300≤n){o:ByteArray}(ho:o.size<8)(A:Q)(a:Bool):ycz.J1 n (o,a,A,())=ycz.J2 n (o,a&&((inB o 108||eqD yaO A.2.2.2.2.2.2.2.1 lockZ)&&((inB o 121||(!A.2.2.2.2.2.2.2.2.1))&&((inB o 100||eqD yaA A.2.2.2.2.2.2.2.2.2.1 (0,(0,())))&&((inB o 114||(((A.2.2.2.2.2.2.2.2.2.2.1.length:Nat):Int)==0)))))),A,()):=by
 have i0:=yed (s:=o) ho h3 108 (by decide)
 have i1:=yed (s:=o) ho h3 121 (by decide)
 have i2:=yed (s:=o) ho h3 100 (by decide)
 have i3:=yed (s:=o) ho h3 114 (by decide)
 rw[ycz.e1]
 simp only[show (108:Int)=((108:Nat):Int) from rfl,show (121:Int)=((121:Nat):Int) from rfl,show (100:Int)=((100:Nat):Int) from rfl,show (114:Int)=((114:Nat):Int) from rfl,i0,i1,i2,i3,bnd_s,yaJ]
 generalize inB o 108=x0
 generalize eqD yaO A.2.2.2.2.2.2.2.1 _=z0
 generalize inB o 121=x1
 generalize (!A.2.2.2.2.2.2.2.2.1)=z1
 generalize inB o 100=x2
 generalize eqD yaA A.2.2.2.2.2.2.2.2.2.1 _=z2
 generalize inB o 114=x3
 generalize (((A.2.2.2.2.2.2.2.2.2.2.1.length:Nat):Int)==0)=z3
 cases a<;>cases x0<;>cases z0<;>cases x1<;>cases z1<;>cases x2<;>cases z2<;>cases x3<;>cases z3<;>rfl
theorem emp0 {n:Nat}(h3:300≤n){o:ByteArray}(ho:o.size<8)(A:Q):ycz.f n A o=ycz.J1 n (o,((inB o 107||eqS A.2.2.2.1 ⟨#[]⟩)&&((inB o 105||(A.2.2.2.2.1==0))&&((inB o 66||(((A.2.2.2.2.2.1.length:Nat):Int)==0))&&((inB o 116||(((A.2.2.2.2.2.2.1.length:Nat):Int)==0)))))),A,()):=by
 have i0:=yed (s:=o) ho h3 107 (by decide)
 have i1:=yed (s:=o) ho h3 105 (by decide)
 have i2:=yed (s:=o) ho h3 66 (by decide)
 have i3:=yed (s:=o) ho h3 116 (by decide)
 rw[ycz.e0]
 simp only[show (107:Int)=((107:Nat):Int) from rfl,show (105:Int)=((105:Nat):Int) from rfl,show (66:Int)=((66:Nat):Int) from rfl,show (116:Int)=((116:Nat):Int) from rfl,i0,i1,i2,i3,bnd_s,yaJ]
 generalize inB o 107=x0
 generalize eqS A.2.2.2.1 ⟨#[]⟩=z0
 generalize inB o 105=x1
 generalize (A.2.2.2.2.1==0)=z1
 generalize inB o 66=x2
 generalize (((A.2.2.2.2.2.1.length:Nat):Int)==0)=z2
 generalize inB o 116=x3
 generalize (((A.2.2.2.2.2.2.1.length:Nat):Int)==0)=z3
 cases x0<;>cases z0<;>cases x1<;>cases z1<;>cases x2<;>cases z2<;>cases x3<;>cases z3<;>rfl
theorem gd3 {n:Nat}(h3:300≤n)(hn2:n≤536870912){o:ByteArray}(ho:o.size<8){A:Q}(he:QB n A)(z:Int):yb0.J3 n (o,z,A,())=yb0.J4 n (o,(!inB o 107||keyB A.2.2.2.1)&&(decide (A.2.2.2.2.1≥z)&&(decide (((A.2.2.2.2.2.1.length:Nat):Int)≤1024)&&(tagsB A.2.2.2.2.2.2.1&&(lockB A.2.2.2.2.2.2.2.1&&(modeB A.2.2.2.2.2.2.2.2.2.1&&(rulesB A.2.2.2.2.2.2.2.2.2.2.1&&(yeY A.2.2.2.2.2.2.2.2.2.2.2.1))))))),A,()):=by
 have i0:=yed (s:=o) ho h3 107 (by decide)
 rw[yb0.e3]
 simp only[show (107:Int)=((107:Nat):Int) from rfl,i0,key30 he.y hn2 (by omega),tags38 hn2 (by omega) he.tg,lock37,ref12_Good,ref14_Rules hn2 (by omega) he.r,ref14_Grants hn2 he.g,bnd_s,yaJ]
 generalize inB o 107=x0
 generalize keyB A.2.2.2.1=g0
 generalize decide (A.2.2.2.2.1≥z)=g1
 generalize decide (((A.2.2.2.2.2.1.length:Nat):Int)≤1024)=g2
 generalize tagsB A.2.2.2.2.2.2.1=g3
 generalize lockB A.2.2.2.2.2.2.2.1=g4
 generalize modeB A.2.2.2.2.2.2.2.2.2.1=g5
 generalize rulesB A.2.2.2.2.2.2.2.2.2.2.1=g6
 generalize yeY A.2.2.2.2.2.2.2.2.2.2.2.1=g7
 cases x0<;>cases g0<;>cases g1<;>cases g2<;>cases g3<;>cases g4<;>cases g5<;>cases g6<;>cases g7<;>rfl
theorem gd4 {n:Nat}(h3:300≤n)(hn2:n≤536870912){o:ByteArray}(ho:o.size<8){A:Q}(he:QB n A)(a:Bool):yb0.J4 n (o,a,A,())=yb0.J5 n (a&&((!inB o 110||(decide (A.2.2.2.2.2.2.2.2.2.2.2.2.1≥1)&&decide (A.2.2.2.2.2.2.2.2.2.2.2.2.1≤10000)))&&(decide (((A.2.2.2.2.2.2.2.2.2.2.2.2.2.1.length:Nat):Int)≤16)&&(nameB A.2.2.2.2.2.2.2.2.2.2.2.2.2.2.1&&(nameB A.2.2.2.2.2.2.2.2.2.2.2.2.2.2.2.1&&(nameB A.2.2.2.2.2.2.2.2.2.2.2.2.2.2.2.2.1&&((!inB o 120||(decide (A.2.2.2.2.2.2.2.2.2.2.2.2.2.2.2.2.2.2.1≥1)&&decide (A.2.2.2.2.2.2.2.2.2.2.2.2.2.2.2.2.2.2.1≤100))))))))),A,()):=by
 have i0:=yed (s:=o) ho h3 110 (by decide)
 have i1:=yed (s:=o) ho h3 120 (by decide)
 rw[yb0.e4]
 simp only[show (110:Int)=((110:Nat):Int) from rfl,show (120:Int)=((120:Nat):Int) from rfl,i0,i1,ref24_name h3 hn2 he.af,ref24_name h3 hn2 he.pr,ref24_name h3 hn2 he.ma,bnd_s,yaJ]
 generalize inB o 110=x0
 generalize inB o 120=x1
 generalize decide (A.2.2.2.2.2.2.2.2.2.2.2.2.1≥1)=g0
 generalize decide (A.2.2.2.2.2.2.2.2.2.2.2.2.1≤10000)=g1
 generalize decide (((A.2.2.2.2.2.2.2.2.2.2.2.2.2.1.length:Nat):Int)≤16)=g2
 generalize nameB A.2.2.2.2.2.2.2.2.2.2.2.2.2.2.1=g3
 generalize nameB A.2.2.2.2.2.2.2.2.2.2.2.2.2.2.2.1=g4
 generalize nameB A.2.2.2.2.2.2.2.2.2.2.2.2.2.2.2.2.1=g5
 generalize decide (A.2.2.2.2.2.2.2.2.2.2.2.2.2.2.2.2.2.2.1≥1)=g6
 generalize decide (A.2.2.2.2.2.2.2.2.2.2.2.2.2.2.2.2.2.2.1≤100)=g7
 cases a<;>cases x0<;>cases x1<;>cases g0<;>cases g1<;>cases g2<;>cases g3<;>cases g4<;>cases g5<;>cases g6<;>cases g7<;>rfl
def exQ (A:Q):Bool:=if A.1=11 then !A.2.2.2.2.2.2.2.1.2.2.1 else if A.1=12 then A.2.2.2.2.2.2.2.1.1==0 else if A.1=15 then eqS A.2.2.2.2.2.2.2.2.2.2.2.2.2.2.2.2.2.1.1 ⟨#[]⟩&&nameB A.2.2.2.2.2.2.2.2.2.2.2.2.2.2.2.2.2.1.2.1 else if A.1=20 then ybB A.2.2.2.2.2.2.2.2.2.2.2.2.2.2.2.2.2.1.1&&(keyB A.2.2.2.2.2.2.2.2.2.2.2.2.2.2.2.2.2.1.2.1&&decide (A.2.2.2.2.2.2.2.2.2.2.2.2.2.2.2.2.2.1.2.2.1≥1)) else true
theorem gd5 {n:Nat}(h3:300≤n)(hn2:n≤536870912){A:Q}(he:QB n A)(a:Bool):yb0.J5 n (a,A,())=some (a&&exQ A,()):=by
 rw[yb0.e5,ref24_name h3 hn2 he.fk,ref06_Bucket h3,key30 he.fk hn2 (by omega)]
 simp only[bnd_s,yaJ]
 unfold exQ
 simp only[show ∀ z:Int,(A.1==z)=decide (A.1=z) from λ_=>rfl]
 by_cases c1:A.1=11
 ·rw[if_pos c1,decide_eq_true c1,bIf_t,yck]
 rw[if_neg c1,decide_eq_false c1,bIf_f]
 by_cases c2:A.1=12
 ·rw[if_pos c2,decide_eq_true c2,bIf_t,yck]
 rw[if_neg c2,decide_eq_false c2,bIf_f]
 by_cases c3:A.1=15
 ·rw[if_pos c3,decide_eq_true c3,bIf_t,yck,yck]
 rw[if_neg c3,decide_eq_false c3,bIf_f]
 by_cases c4:A.1=20
 ·rw[if_pos c4,decide_eq_true c4,bIf_t,yck,yck,yck]
 rw[if_neg c4,decide_eq_false c4,bIf_f,Bool.and_true]
theorem nameB_nil:nameB ⟨#[]⟩=true:=by decide +kernel
theorem zg_len {m:Nat}{c:Int}(hc:0≤c)(h:(((m:Nat):Int)==0)=true):decide (((m:Nat):Int)≤c)=true:=by rw[beq_iff_eq]at h;exact decide_eq_true (by omega)
theorem zg_t {l:List yaz}(h:(((l.length:Nat):Int)==0)=true):tagsB l=true:=by rw[len0 h];rfl
theorem zg_r {l:List yau}(h:(((l.length:Nat):Int)==0)=true):rulesB l=true:=by rw[len0 h];rfl
theorem zg_g {l:List yat}(h:(((l.length:Nat):Int)==0)=true):yeY l=true:=by rw[len0 h];rfl
theorem zg_l {l:yaZ}(h:eqD yaO l lockZ=true):lockB l=true:=by rw[lockEq h];decide
theorem zg_d {d:yaL}(h:eqD yaA d (0,(0,()))=true):modeB d=true:=by rw[defEq h];decide
theorem zg_n {s:ByteArray}(h:eqS s ⟨#[]⟩=true):nameB s=true:=by rw[yeH h];exact nameB_nil
theorem fld_zg {h:ByteArray}{c:Nat}{g z:Bool}(hz:z=true→g=true):fld h c g z=((inB h c||z)&&g):=by
 unfold fld
 cases inB h c<;>cases z<;>cases g<;>first | rfl | exact absurd (hz rfl) (by decide)
theorem fld_nx {h:ByteArray}{c:Nat}{g z:Bool}:fld h c g z=((inB h c||z)&&(!inB h c||g)):=by
 unfold fld
 cases inB h c<;>cases z<;>cases g<;>rfl
theorem fld_tr {h:ByteArray}{c:Nat}{z:Bool}:fld h c true z=(inB h c||z):=by
 unfold fld
 cases inB h c<;>rfl
def frQ (k:Int)(f:ybh):Bool:=if k=15 then eqS f.1 ⟨#[]⟩&&nameB f.2.1 else if k=20 then ybB f.1&&(keyB f.2.1&&decide (f.2.2.1≥1)) else true
theorem kindQ {k:Int}(hk:1≤k∧k≤22)(l:yaZ)(f:ybh):(inB (hasQ k) 105=false→yeu k=0)∧(inB (hasQ k) 108=false→lockK k l=true)∧(inB (hasQ k) 102=true→frQ k f=fromK k f)∧(inB (hasQ k) 102=false→frQ k f=true):=by
 have:k=1∨k=2∨k=3∨k=4∨k=5∨k=6∨k=7∨k=8∨k=9∨k=10∨k=11∨k=12∨k=13∨k=14∨k=15∨k=16∨k=17∨k=18∨k=19∨k=20∨k=21∨k=22:=by omega
 rcases this with h | h | h | h | h | h | h | h | h | h | h | h | h | h | h | h | h | h | h | h | h | h<;>subst h<;>refine⟨?_,?_,?_,?_⟩<;>intro hh<;>first | rfl | exact absurd hh (by decide +kernel)
theorem exQ_eq (e:Q):exQ e=(lockK e.1 e.2.2.2.2.2.2.2.1&&frQ e.1 e.2.2.2.2.2.2.2.2.2.2.2.2.2.2.2.2.2.1):=by
 unfold exQ lockK frQ
 by_cases c1:e.1=11
 ·rw[if_pos c1,if_pos c1,if_neg (by omega),if_neg (by omega),Bool.and_true]
 rw[if_neg c1,if_neg c1]
 by_cases c2:e.1=12
 ·rw[if_pos c2,if_pos c2,if_neg (by omega),if_neg (by omega),Bool.and_true]
 rw[if_neg c2,if_neg c2,Bool.true_and]
theorem ref24_has (n:Nat){k:Int}(hk:1≤k∧k≤22):yeB.f n k=some (hasQ k,()):=by
 have:k=1∨k=2∨k=3∨k=4∨k=5∨k=6∨k=7∨k=8∨k=9∨k=10∨k=11∨k=12∨k=13∨k=14∨k=15∨k=16∨k=17∨k=18∨k=19∨k=20∨k=21∨k=22:=by omega
 rcases this with h | h | h | h | h | h | h | h | h | h | h | h | h | h | h | h | h | h | h | h | h | h<;>subst h<;>(rw[yeB.e0];simp only[yeB.e1,yeB.e2,yaJ,Int.reduceBEq,bIf_t,bIf_f];rfl)
theorem hasQ_size {k:Int}(hk:1≤k∧k≤22):(hasQ k).size<8:=by
 have:k=1∨k=2∨k=3∨k=4∨k=5∨k=6∨k=7∨k=8∨k=9∨k=10∨k=11∨k=12∨k=13∨k=14∨k=15∨k=16∨k=17∨k=18∨k=19∨k=20∨k=21∨k=22:=by omega
 rcases this with h | h | h | h | h | h | h | h | h | h | h | h | h | h | h | h | h | h | h | h | h | h<;>subst h<;>decide +kernel
set_option maxHeartbeats 4000000 in
theorem ref24_Good {n:Nat}(h3:300≤n)(hn2:n≤536870912){e:Q}(he:QB n e):yb0.f n e=some (goodQ e,()):=by
 by_cases hk:1≤e.1∧e.1≤22
 ·have ho:=hasQ_size hk
  have hw:=he.w
  obtain⟨q1,q2,q3,q4⟩:=kindQ hk e.2.2.2.2.2.2.2.1 e.2.2.2.2.2.2.2.2.2.2.2.2.2.2.2.2.2.1
  have f107:=fld_nx (h:=hasQ e.1) (c:=107) (g:=keyB e.2.2.2.1) (z:=eqS e.2.2.2.1 ⟨#[]⟩)
  have f110:=fld_nx (h:=hasQ e.1) (c:=110) (g:=decide (e.2.2.2.2.2.2.2.2.2.2.2.2.1≥1)&&decide (e.2.2.2.2.2.2.2.2.2.2.2.2.1≤10000)) (z:=(e.2.2.2.2.2.2.2.2.2.2.2.2.1==0))
  have f120:=fld_nx (h:=hasQ e.1) (c:=120) (g:=decide (e.2.2.2.2.2.2.2.2.2.2.2.2.2.2.2.2.2.2.1≥1)&&decide (e.2.2.2.2.2.2.2.2.2.2.2.2.2.2.2.2.2.2.1≤100)) (z:=(e.2.2.2.2.2.2.2.2.2.2.2.2.2.2.2.2.2.2.1==0))
  have f121:=fld_tr (h:=hasQ e.1) (c:=121) (z:=(!e.2.2.2.2.2.2.2.2.1))
  have f66:=fld_zg (h:=hasQ e.1) (c:=66) (zg_len (m:=e.2.2.2.2.2.1.length) (c:=1024) (by decide))
  have f116:=fld_zg (h:=hasQ e.1) (c:=116) (zg_t (l:=e.2.2.2.2.2.2.1))
  have f100:=fld_zg (h:=hasQ e.1) (c:=100) (zg_d (d:=e.2.2.2.2.2.2.2.2.2.1))
  have f114:=fld_zg (h:=hasQ e.1) (c:=114) (zg_r (l:=e.2.2.2.2.2.2.2.2.2.2.1))
  have f103:=fld_zg (h:=hasQ e.1) (c:=103) (zg_g (l:=e.2.2.2.2.2.2.2.2.2.2.2.1))
  have f78:=fld_zg (h:=hasQ e.1) (c:=78) (zg_len (m:=e.2.2.2.2.2.2.2.2.2.2.2.2.2.1.length) (c:=16) (by decide))
  have f97:=fld_zg (h:=hasQ e.1) (c:=97) (zg_n (s:=e.2.2.2.2.2.2.2.2.2.2.2.2.2.2.1))
  have f112:=fld_zg (h:=hasQ e.1) (c:=112) (zg_n (s:=e.2.2.2.2.2.2.2.2.2.2.2.2.2.2.2.1))
  have f109:=fld_zg (h:=hasQ e.1) (c:=109) (zg_n (s:=e.2.2.2.2.2.2.2.2.2.2.2.2.2.2.2.2.1))
  have f105:fld (hasQ e.1) 105 (decide (e.2.2.2.2.1≥yeu e.1)) ((e.2.2.2.2.1==0))=((inB (hasQ e.1) 105||(e.2.2.2.2.1==0))&&(decide (e.2.2.2.2.1≥yeu e.1))):=by
   unfold fld
   cases hi:inB (hasQ e.1) 105
   ·rw[q1 hi]
    cases hz:(e.2.2.2.2.1==0)
    ·rfl
    ·rw[decide_eq_true (by have:=beq_iff_eq.1 hz;omega)];rfl
   ·rfl
  have f108:fld (hasQ e.1) 108 (lockB e.2.2.2.2.2.2.2.1&&lockK e.1 e.2.2.2.2.2.2.2.1) (eqD yaO e.2.2.2.2.2.2.2.1 lockZ)=((inB (hasQ e.1) 108||eqD yaO e.2.2.2.2.2.2.2.1 lockZ)&&(lockB e.2.2.2.2.2.2.2.1&&lockK e.1 e.2.2.2.2.2.2.2.1)):=by
   unfold fld
   cases hi:inB (hasQ e.1) 108
   ·rw[q2 hi]
    cases hz:eqD yaO e.2.2.2.2.2.2.2.1 lockZ
    ·rfl
    ·rw[zg_l hz];rfl
   ·rfl
  have f102:fld (hasQ e.1) 102 (fromK e.1 e.2.2.2.2.2.2.2.2.2.2.2.2.2.2.2.2.2.1) (eqD ya0 e.2.2.2.2.2.2.2.2.2.2.2.2.2.2.2.2.2.1 spotZ)=((inB (hasQ e.1) 102||eqD ya0 e.2.2.2.2.2.2.2.2.2.2.2.2.2.2.2.2.2.1 spotZ)&&frQ e.1 e.2.2.2.2.2.2.2.2.2.2.2.2.2.2.2.2.2.1):=by
   unfold fld
   cases hi:inB (hasQ e.1) 102
   ·rw[q4 hi,Bool.and_true];rfl
   ·rw[q3 hi];rfl
  have e2:yb0.J2 n (e,())=some (fld (hasQ e.1) 107 (keyB e.2.2.2.1) (eqS e.2.2.2.1 ⟨#[]⟩)&&(fld (hasQ e.1) 105 (decide (e.2.2.2.2.1≥yeu e.1)) ((e.2.2.2.2.1==0))&&(fld (hasQ e.1) 66 (decide (((e.2.2.2.2.2.1.length:Nat):Int)≤1024)) ((((e.2.2.2.2.2.1.length:Nat):Int)==0))&&(fld (hasQ e.1) 116 (tagsB e.2.2.2.2.2.2.1) ((((e.2.2.2.2.2.2.1.length:Nat):Int)==0))&&(fld (hasQ e.1) 108 (lockB e.2.2.2.2.2.2.2.1&&lockK e.1 e.2.2.2.2.2.2.2.1) (eqD yaO e.2.2.2.2.2.2.2.1 lockZ)&&(fld (hasQ e.1) 121 (true) ((!e.2.2.2.2.2.2.2.2.1))&&(fld (hasQ e.1) 100 (modeB e.2.2.2.2.2.2.2.2.2.1) (eqD yaA e.2.2.2.2.2.2.2.2.2.1 (0,(0,())))&&(fld (hasQ e.1) 114 (rulesB e.2.2.2.2.2.2.2.2.2.2.1) ((((e.2.2.2.2.2.2.2.2.2.2.1.length:Nat):Int)==0))&&(fld (hasQ e.1) 103 (yeY e.2.2.2.2.2.2.2.2.2.2.2.1) ((((e.2.2.2.2.2.2.2.2.2.2.2.1.length:Nat):Int)==0))&&(fld (hasQ e.1) 110 (decide (e.2.2.2.2.2.2.2.2.2.2.2.2.1≥1)&&decide (e.2.2.2.2.2.2.2.2.2.2.2.2.1≤10000)) ((e.2.2.2.2.2.2.2.2.2.2.2.2.1==0))&&(fld (hasQ e.1) 78 (decide (((e.2.2.2.2.2.2.2.2.2.2.2.2.2.1.length:Nat):Int)≤16)) ((((e.2.2.2.2.2.2.2.2.2.2.2.2.2.1.length:Nat):Int)==0))&&(fld (hasQ e.1) 97 (nameB e.2.2.2.2.2.2.2.2.2.2.2.2.2.2.1) (eqS e.2.2.2.2.2.2.2.2.2.2.2.2.2.2.1 ⟨#[]⟩)&&(fld (hasQ e.1) 112 (nameB e.2.2.2.2.2.2.2.2.2.2.2.2.2.2.2.1) (eqS e.2.2.2.2.2.2.2.2.2.2.2.2.2.2.2.1 ⟨#[]⟩)&&(fld (hasQ e.1) 109 (nameB e.2.2.2.2.2.2.2.2.2.2.2.2.2.2.2.2.1) (eqS e.2.2.2.2.2.2.2.2.2.2.2.2.2.2.2.2.1 ⟨#[]⟩)&&(fld (hasQ e.1) 102 (fromK e.1 e.2.2.2.2.2.2.2.2.2.2.2.2.2.2.2.2.2.1) (eqD ya0 e.2.2.2.2.2.2.2.2.2.2.2.2.2.2.2.2.2.1 spotZ)&&(fld (hasQ e.1) 120 (decide (e.2.2.2.2.2.2.2.2.2.2.2.2.2.2.2.2.2.2.1≥1)&&decide (e.2.2.2.2.2.2.2.2.2.2.2.2.2.2.2.2.2.2.1≤100)) ((e.2.2.2.2.2.2.2.2.2.2.2.2.2.2.2.2.2.2.1==0))))))))))))))))),()):=by
   rw[f107,f105,f66,f116,f108,f121,f100,f114,f103,f110,f78,f97,f112,f109,f102,f120]
   clear f107 f105 f66 f116 f108 f121 f100 f114 f103 f110 f78 f97 f112 f109 f102 f120
   have hl:∀ (J:Int→Option yb0.R),bIf (e.1==10) (J 1) (bIf (e.1==17) (J 1) (bIf (e.1==18) (J 1) (bIf (e.1==19) (J 1) (J 0))))=J (yeu e.1):=by
    intro J
    simp only[show ∀ z:Int,(e.1==z)=decide (e.1=z) from λ_=>rfl]
    unfold yeu
    by_cases c1:e.1=10
    ·rw[decide_eq_true c1,if_pos (by omega),bIf_t]
    by_cases c2:e.1=17
    ·rw[decide_eq_false c1,bIf_f,decide_eq_true c2,if_pos (by omega),bIf_t]
    by_cases c3:e.1=18
    ·rw[decide_eq_false c1,bIf_f,decide_eq_false c2,bIf_f,decide_eq_true c3,if_pos (by omega),bIf_t]
    by_cases c4:e.1=19
    ·rw[decide_eq_false c1,bIf_f,decide_eq_false c2,bIf_f,decide_eq_false c3,bIf_f,decide_eq_true c4,if_pos (by omega),bIf_t]
    rw[decide_eq_false c1,bIf_f,decide_eq_false c2,bIf_f,decide_eq_false c3,bIf_f,decide_eq_false c4,bIf_f,if_neg (by omega)]
   rw[yb0.e2,ref24_has n hk,bnd_s,emp0 h3 ho e,emp1 h3 ho e,emp2 h3 ho e,emp3 h3 ho e,bnd_s]
   simp only[yaJ]
   rw[hl (λz=>yb0.J3 n (hasQ e.1,z,e,())),gd3 h3 hn2 ho he,gd4 h3 hn2 ho he,gd5 h3 hn2 he,exQ_eq,ycJ,Bool.not_not]
   clear hl q1 q2 q3 q4
   generalize inB (hasQ e.1) 107=x107
   generalize inB (hasQ e.1) 105=x105
   generalize inB (hasQ e.1) 66=x66
   generalize inB (hasQ e.1) 116=x116
   generalize inB (hasQ e.1) 108=x108
   generalize inB (hasQ e.1) 121=x121
   generalize inB (hasQ e.1) 100=x100
   generalize inB (hasQ e.1) 114=x114
   generalize inB (hasQ e.1) 103=x103
   generalize inB (hasQ e.1) 110=x110
   generalize inB (hasQ e.1) 78=x78
   generalize inB (hasQ e.1) 97=x97
   generalize inB (hasQ e.1) 112=x112
   generalize inB (hasQ e.1) 109=x109
   generalize inB (hasQ e.1) 102=x102
   generalize inB (hasQ e.1) 120=x120
   generalize eqS e.2.2.2.1 ⟨#[]⟩=z107
   generalize (e.2.2.2.2.1==0)=z105
   generalize (((e.2.2.2.2.2.1.length:Nat):Int)==0)=z66
   generalize (((e.2.2.2.2.2.2.1.length:Nat):Int)==0)=z116
   generalize eqD yaO e.2.2.2.2.2.2.2.1 _=z108
   generalize eqD yaA e.2.2.2.2.2.2.2.2.2.1 _=z100
   generalize (((e.2.2.2.2.2.2.2.2.2.2.1.length:Nat):Int)==0)=z114
   generalize (((e.2.2.2.2.2.2.2.2.2.2.2.1.length:Nat):Int)==0)=z103
   generalize (e.2.2.2.2.2.2.2.2.2.2.2.2.1==0)=z110
   generalize (((e.2.2.2.2.2.2.2.2.2.2.2.2.2.1.length:Nat):Int)==0)=z78
   generalize eqS e.2.2.2.2.2.2.2.2.2.2.2.2.2.2.1 ⟨#[]⟩=z97
   generalize eqS e.2.2.2.2.2.2.2.2.2.2.2.2.2.2.2.1 ⟨#[]⟩=z112
   generalize eqS e.2.2.2.2.2.2.2.2.2.2.2.2.2.2.2.2.1 ⟨#[]⟩=z109
   generalize eqD ya0 e.2.2.2.2.2.2.2.2.2.2.2.2.2.2.2.2.2.1 _=z102
   generalize (e.2.2.2.2.2.2.2.2.2.2.2.2.2.2.2.2.2.2.1==0)=z120
   generalize keyB _=g1
   generalize decide (e.2.2.2.2.1≥_)=g2
   generalize decide (((e.2.2.2.2.2.1.length:Nat):Int)≤1024)=g3
   generalize tagsB _=g4
   generalize lockB _=g5
   generalize lockK _ _=g6
   generalize modeB _=g7
   generalize rulesB _=g8
   generalize yeY _=g9
   generalize decide (e.2.2.2.2.2.2.2.2.2.2.2.2.1≥1)=g10
   generalize decide (e.2.2.2.2.2.2.2.2.2.2.2.2.1≤10000)=g11
   generalize decide (((e.2.2.2.2.2.2.2.2.2.2.2.2.2.1.length:Nat):Int)≤16)=g12
   generalize nameB e.2.2.2.2.2.2.2.2.2.2.2.2.2.2.1=g13
   generalize nameB e.2.2.2.2.2.2.2.2.2.2.2.2.2.2.2.1=g14
   generalize nameB e.2.2.2.2.2.2.2.2.2.2.2.2.2.2.2.2.1=g15
   generalize frQ _ _=g16
   generalize decide (e.2.2.2.2.2.2.2.2.2.2.2.2.2.2.2.2.2.2.1≥1)=g17
   generalize decide (e.2.2.2.2.2.2.2.2.2.2.2.2.2.2.2.2.2.2.1≤100)=g18
   ac_rfl
  unfold goodQ
  rw[yb0.e0,clean44 (by omega) hw (by omega)]
  simp only[yb0.e1,ref06_Bucket h3,yaJ,bnd_s]
  rw[e2,decide_eq_false (show ¬ e.1<1 by omega),bIf_f,decide_eq_false (show ¬ e.1>22 by omega),bIf_f,show (decide (1≤e.1)&&decide (e.1≤22))=true by rw[decide_eq_true hk.1,decide_eq_true hk.2];rfl]
  by_cases h21:21≤e.1
  ·rw[if_pos h21,decide_eq_true (show e.1≥21 from h21),bIf_t,decide_eq_false (show ¬ e.1<21 by omega),bIf_f]
   simp only[ycJ,Bool.not_not,Bool.true_and]
  ·rw[if_neg h21,decide_eq_false (show ¬ e.1≥21 from h21),bIf_f,decide_eq_true (show e.1<21 by omega),bIf_t]
   simp only[ycJ,Bool.not_not,Bool.true_and]
 ·have hz:goodQ e=false:=by
   unfold goodQ
   rw[show (decide (1≤e.1)&&decide (e.1≤22))=false by
    rw[← Bool.decide_and];exact decide_eq_false hk,Bool.false_and]
  rw[hz,yb0.e0,yap,yap]
  by_cases h1:e.1<1
  ·rw[decide_eq_true h1,yaq]
  ·rw[decide_eq_false h1,yaj,decide_eq_true (by omega),yaq]
end Go.Proofs.YtdlkpmohjhjmfaaGreatDoor
namespace Go.Proofs.YtdlkpmohjhjmfaaGreatDoor
open Go Go.Va Go.Proofs
theorem acts_Good {n:Nat}(h3:300≤n)(hn2:n≤536870912){e:Q}(he:QB n e):yaH.f n e=some (goodQ e,()):=by
 by_cases hk:1≤e.1∧e.1≤22
 ·obtain⟨k,w,b,y,i,bo,tg,l,q,d,r,g,nu,ns,af,pr,ma,fr,mx,u⟩:=e
  have:k=1∨k=2∨k=3∨k=4∨k=5∨k=6∨k=7∨k=8∨k=9∨k=10∨k=11∨k=12∨k=13∨k=14∨k=15∨k=16∨k=17∨k=18∨k=19∨k=20∨k=21∨k=22:=by
   obtain⟨h1,h2⟩:=hk
   dsimp only at h1 h2
   omega
  rcases this with h | h | h | h | h | h | h | h | h | h | h | h | h | h | h | h | h | h | h | h | h | h<;>subst h
  ·exact good_1 w b y i bo tg l q d r g nu ns af pr ma fr mx u h3 hn2 he
  ·exact good_2 w b y i bo tg l q d r g nu ns af pr ma fr mx u h3 hn2 he
  ·exact good_3 w b y i bo tg l q d r g nu ns af pr ma fr mx u h3 hn2 he
  ·exact good_4 w b y i bo tg l q d r g nu ns af pr ma fr mx u h3 hn2 he
  ·exact good_5 w b y i bo tg l q d r g nu ns af pr ma fr mx u h3 hn2 he
  ·exact good_6 w b y i bo tg l q d r g nu ns af pr ma fr mx u h3 hn2 he
  ·exact good_7 w b y i bo tg l q d r g nu ns af pr ma fr mx u h3 hn2 he
  ·exact good_8 w b y i bo tg l q d r g nu ns af pr ma fr mx u h3 hn2 he
  ·exact good_9 w b y i bo tg l q d r g nu ns af pr ma fr mx u h3 hn2 he
  ·exact good_10 w b y i bo tg l q d r g nu ns af pr ma fr mx u h3 hn2 he
  ·exact good_11 w b y i bo tg l q d r g nu ns af pr ma fr mx u h3 hn2 he
  ·exact good_12 w b y i bo tg l q d r g nu ns af pr ma fr mx u h3 hn2 he
  ·exact good_13 w b y i bo tg l q d r g nu ns af pr ma fr mx u h3 hn2 he
  ·exact good_14 w b y i bo tg l q d r g nu ns af pr ma fr mx u h3 hn2 he
  ·exact good_15 w b y i bo tg l q d r g nu ns af pr ma fr mx u h3 hn2 he
  ·exact good_16 w b y i bo tg l q d r g nu ns af pr ma fr mx u h3 hn2 he
  ·exact good_17 w b y i bo tg l q d r g nu ns af pr ma fr mx u h3 hn2 he
  ·exact good_18 w b y i bo tg l q d r g nu ns af pr ma fr mx u h3 hn2 he
  ·exact good_19 w b y i bo tg l q d r g nu ns af pr ma fr mx u h3 hn2 he
  ·exact good_20 w b y i bo tg l q d r g nu ns af pr ma fr mx u h3 hn2 he
  ·exact good_21 w b y i bo tg l q d r g nu ns af pr ma fr mx u h3 hn2 he
  ·exact good_22 w b y i bo tg l q d r g nu ns af pr ma fr mx u h3 hn2 he
 ·have hz:goodQ e=false:=by
   unfold goodQ
   rw[show (decide (1≤e.1)&&decide (e.1≤22))=false by
    rw[← Bool.decide_and];exact decide_eq_false hk,Bool.false_and]
  have c1:(e.1==1)=false:=by rw[beq_eq_false_iff_ne];omega
  have c2:(e.1==2)=false:=by rw[beq_eq_false_iff_ne];omega
  have c3:(e.1==3)=false:=by rw[beq_eq_false_iff_ne];omega
  have c4:(e.1==4)=false:=by rw[beq_eq_false_iff_ne];omega
  have c5:(e.1==5)=false:=by rw[beq_eq_false_iff_ne];omega
  have c6:(e.1==6)=false:=by rw[beq_eq_false_iff_ne];omega
  have c7:(e.1==7)=false:=by rw[beq_eq_false_iff_ne];omega
  have c8:(e.1==8)=false:=by rw[beq_eq_false_iff_ne];omega
  have c9:(e.1==9)=false:=by rw[beq_eq_false_iff_ne];omega
  have c10:(e.1==10)=false:=by rw[beq_eq_false_iff_ne];omega
  have c11:(e.1==11)=false:=by rw[beq_eq_false_iff_ne];omega
  have c12:(e.1==12)=false:=by rw[beq_eq_false_iff_ne];omega
  have c13:(e.1==13)=false:=by rw[beq_eq_false_iff_ne];omega
  have c14:(e.1==14)=false:=by rw[beq_eq_false_iff_ne];omega
  have c15:(e.1==15)=false:=by rw[beq_eq_false_iff_ne];omega
  have c16:(e.1==16)=false:=by rw[beq_eq_false_iff_ne];omega
  have c17:(e.1==17)=false:=by rw[beq_eq_false_iff_ne];omega
  have c18:(e.1==18)=false:=by rw[beq_eq_false_iff_ne];omega
  have c19:(e.1==19)=false:=by rw[beq_eq_false_iff_ne];omega
  have c20:(e.1==20)=false:=by rw[beq_eq_false_iff_ne];omega
  have c21:(e.1==21)=false:=by rw[beq_eq_false_iff_ne];omega
  have c22:(e.1==22)=false:=by rw[beq_eq_false_iff_ne];omega
  have how:yaf.f n (e,(true,()))=some ((e,(false,())),()):=by
   rw[yaf.e0]
   simp only[yaf.e1,yaf.e2,yaf.e3,yaJ,c1,c2,c3,c4,c5,c6,c7,c8,c9,c10,c11,c12,c13,c14,c15,c16,c17,c18,c19,c20,c21,c22,bIf_t,bIf_f,bnd_s,s_may,Bool.and_false]
  have hw:=he.w
  rw[hz,yaH.e0]
  simp only[yaH.e1,how,ydL (by omega) hw,yba.e0,ya3 h3,yaJ,c21,c22,bnd_s,bIf_t,bIf_f,ydq]
def sameI (x y:Int):Bool:=x==y
def sameQ (a b:Q):Bool:=(a.1==b.1)&&(eqS a.2.1 b.2.1&&(eqS a.2.2.1 b.2.2.1&&(eqS a.2.2.2.1 b.2.2.2.1&&((a.2.2.2.2.1==b.2.2.2.2.1)&&(eqD yaO a.2.2.2.2.2.2.2.1 b.2.2.2.2.2.2.2.1&&((a.2.2.2.2.2.2.2.2.1==b.2.2.2.2.2.2.2.2.1)&&(eqD yaA a.2.2.2.2.2.2.2.2.2.1 b.2.2.2.2.2.2.2.2.2.1&&((a.2.2.2.2.2.2.2.2.2.2.2.2.1==b.2.2.2.2.2.2.2.2.2.2.2.2.1)&&(eqS a.2.2.2.2.2.2.2.2.2.2.2.2.2.2.1 b.2.2.2.2.2.2.2.2.2.2.2.2.2.2.1&&(eqS a.2.2.2.2.2.2.2.2.2.2.2.2.2.2.2.1 b.2.2.2.2.2.2.2.2.2.2.2.2.2.2.2.1&&(eqS a.2.2.2.2.2.2.2.2.2.2.2.2.2.2.2.2.1 b.2.2.2.2.2.2.2.2.2.2.2.2.2.2.2.2.1&&(eqD ya0 a.2.2.2.2.2.2.2.2.2.2.2.2.2.2.2.2.2.1 b.2.2.2.2.2.2.2.2.2.2.2.2.2.2.2.2.2.1&&((a.2.2.2.2.2.2.2.2.2.2.2.2.2.2.2.2.2.2.1==b.2.2.2.2.2.2.2.2.2.2.2.2.2.2.2.2.2.2.1)&&(eqS (yaT a.2.2.2.2.2.1) (yaT b.2.2.2.2.2.1)&&(allB sameT a.2.2.2.2.2.2.1 b.2.2.2.2.2.2.1&&(allB sameR a.2.2.2.2.2.2.2.2.2.2.1 b.2.2.2.2.2.2.2.2.2.2.1&&(allB sameG a.2.2.2.2.2.2.2.2.2.2.2.1 b.2.2.2.2.2.2.2.2.2.2.2.1&&(allB sameI a.2.2.2.2.2.2.2.2.2.2.2.2.2.1 b.2.2.2.2.2.2.2.2.2.2.2.2.2.1))))))))))))))))))
theorem slices_Equal_int {n:Nat}(hn:n≤536870912){a b:List Int}(hlen:a.length<n):ybb.f n a b=some (allB sameI a b,()):=by
 rw[ybb.e0,yap,ne_len]
 by_cases h:a.length=b.length
 ·have:=zip_loop (0:Int) sameI (λm k=>ybb.J1 n m (a,b,((a.length:Nat):Int),k,())) h
   (λm k hk=>by
    try dsimp only
    rw[ybb.e1,yap,decide_eq_true (by omega),yaq,yar ⟨by omega,by omega⟩,yar ⟨by omega,by omega⟩,Int.toNat_natCast,ybp k (by omega),yap,bne]
    unfold sameI
    generalize ((_:Int)==_)=z;cases z<;>rfl)
   (λm=>by
    try dsimp only
    rw[ybb.e1,yap,decide_eq_false (by omega),yaj,ybb.e2]) n 0 (by omega) (by omega)
  try dsimp only at this
  rw[show ((0:Nat):Int)=0 from rfl]at this
  rw[decide_eq_true h,Bool.not_true,yaj,this];rfl
 ·rw[decide_eq_false h,Bool.not_false,yaq,yfu a b h]
theorem wire_Same {n:Nat}(h3:300≤n)(hn2:n≤536870912){a b:Q}(ha:QB n a):yd4.f n a b=some (sameQ a b,()):=by
 rw[yd4.e0,yd4.e1,yd4.e2,ybn.e0,same48 hn2 ha.tg.1,entry_SameRules hn2 ha.r,slices_Equal_Grant hn2 ha.g,slices_Equal_int hn2 ha.ns]
 simp only[yaJ,bnd_s,yck,ycJ,bne,Bool.not_not]
 rfl
abbrev asE (a:Q):E:=(0,(0,((⟨#[]⟩:ByteArray),((⟨#[]⟩:ByteArray),(0,(verZ,(lockZ,(a.2.2.2.2.2.2.1,((0,(0,())),(a.2.2.2.2.2.2.2.2.2.2.1,(a.2.2.2.2.2.2.2.2.2.2.2.1,(partZ,()))))))))))))
theorem asE_B {n:Nat}(h3:300≤n){a:Q}(ha:QB n a):EB n (asE a):=⟨by change 0<n;omega,by change 0<n;omega,Int.le_refl 0,VBz (by omega),ha.tg,ha.r,ha.g⟩
theorem asE_same (a b:Q):sameE (asE a) (asE b)=(allB sameT a.2.2.2.2.2.2.1 b.2.2.2.2.2.2.1&&(allB sameR a.2.2.2.2.2.2.2.2.2.2.1 b.2.2.2.2.2.2.2.2.2.2.1&&allB sameG a.2.2.2.2.2.2.2.2.2.2.2.1 b.2.2.2.2.2.2.2.2.2.2.2.1)):=by
 unfold sameE
 rw[ybF,ydp,yec,partRefl,sameV_refl]
 simp only[beq_self_eq_true,Bool.true_and]
theorem ref26_Same {n:Nat}(h3:300≤n)(hn2:n≤536870912){a b:Q}(ha:QB n a):yb2.f n a b=some (sameQ a b,()):=by
 have hlen:=ha.ns
 have h1:yb2.J2 n (a,b,())=some (if a.2.2.2.2.2.2.2.2.2.2.2.2.2.1.length=b.2.2.2.2.2.2.2.2.2.2.2.2.2.1.length then allB sameI a.2.2.2.2.2.2.2.2.2.2.2.2.2.1 b.2.2.2.2.2.2.2.2.2.2.2.2.2.1 else true,())∨a.2.2.2.2.2.2.2.2.2.2.2.2.2.1.length≠b.2.2.2.2.2.2.2.2.2.2.2.2.2.1.length:=by
  by_cases h:a.2.2.2.2.2.2.2.2.2.2.2.2.2.1.length=b.2.2.2.2.2.2.2.2.2.2.2.2.2.1.length
  ·left
   rw[if_pos h,yb2.e2]
   have:=zip_loop (0:Int) sameI (λm k=>yb2.J3 n m (k,a,b,())) h
    (λm k hk=>by
     try dsimp only
     rw[yb2.e3,yap,decide_eq_true (by omega),yaq,yar ⟨by omega,by omega⟩,yar ⟨by omega,by omega⟩,Int.toNat_natCast,ybp k (by omega),yap,bne]
     unfold sameI
     generalize ((_:Int)==_)=z;cases z<;>rfl)
    (λm=>by
     try dsimp only
     rw[yb2.e3,yap,decide_eq_false (by omega),yaj,yb2.e4]) n 0 (by omega) (by omega)
   try dsimp only at this
   rw[show ((0:Nat):Int)=0 from rfl,List.drop_zero,List.drop_zero]at this
   exact this
  ·exact .inr h
 have h2:yb2.J1 n (a,b,())=some ((allB sameT a.2.2.2.2.2.2.1 b.2.2.2.2.2.2.1&&(allB sameR a.2.2.2.2.2.2.2.2.2.2.1 b.2.2.2.2.2.2.2.2.2.2.1&&allB sameG a.2.2.2.2.2.2.2.2.2.2.2.1 b.2.2.2.2.2.2.2.2.2.2.2.1))&&allB sameI a.2.2.2.2.2.2.2.2.2.2.2.2.2.1 b.2.2.2.2.2.2.2.2.2.2.2.2.2.1,()):=by
  rw[yb2.e1]
  have:=ref14_Same hn2 (b:=asE b) (asE_B h3 ha)
  rw[asE_same]at this
  change (bnd (ydW.f n (asE a) (asE b)) λu1=>bIf (!u1.1) (some (false,())) (bIf (hide _) (some (false,())) (yb2.J2 n (a,b,()))))=_
  rw[this,yab,yap,ne_len]
  try dsimp only
  by_cases h:a.2.2.2.2.2.2.2.2.2.2.2.2.2.1.length=b.2.2.2.2.2.2.2.2.2.2.2.2.2.1.length
  ·rcases h1 with h1 | h1
   ·rw[h1,if_pos h,decide_eq_true h,Bool.not_true,yaj,ycJ,Bool.not_not]
   ·exact absurd h h1
  ·rw[decide_eq_false h,Bool.not_false,yaq,yfu _ _ h,Bool.and_false,ydq]
 rw[yb2.e0,h2]
 simp only[yaJ,bnd_s,yck,ycJ,bne,Bool.not_not]
 unfold sameQ
 generalize (a.1==b.1)=zk
 generalize eqS a.2.1 b.2.1=zw
 generalize eqS a.2.2.1 b.2.2.1=zb
 generalize eqS a.2.2.2.1 b.2.2.2.1=zy
 generalize (a.2.2.2.2.1==b.2.2.2.2.1)=zi
 generalize eqD yaO a.2.2.2.2.2.2.2.1 b.2.2.2.2.2.2.2.1=zl
 generalize (a.2.2.2.2.2.2.2.2.1==b.2.2.2.2.2.2.2.2.1)=zq
 generalize eqD yaA a.2.2.2.2.2.2.2.2.2.1 b.2.2.2.2.2.2.2.2.2.1=zd
 generalize (a.2.2.2.2.2.2.2.2.2.2.2.2.1==b.2.2.2.2.2.2.2.2.2.2.2.2.1)=znu
 generalize eqS a.2.2.2.2.2.2.2.2.2.2.2.2.2.2.1 b.2.2.2.2.2.2.2.2.2.2.2.2.2.2.1=zaf
 generalize eqS a.2.2.2.2.2.2.2.2.2.2.2.2.2.2.2.1 b.2.2.2.2.2.2.2.2.2.2.2.2.2.2.2.1=zpr
 generalize eqS a.2.2.2.2.2.2.2.2.2.2.2.2.2.2.2.2.1 b.2.2.2.2.2.2.2.2.2.2.2.2.2.2.2.2.1=zma
 generalize eqD ya0 a.2.2.2.2.2.2.2.2.2.2.2.2.2.2.2.2.2.1 b.2.2.2.2.2.2.2.2.2.2.2.2.2.2.2.2.2.1=zfr
 generalize (a.2.2.2.2.2.2.2.2.2.2.2.2.2.2.2.2.2.2.1==b.2.2.2.2.2.2.2.2.2.2.2.2.2.2.2.2.2.2.1)=zmx
 generalize eqS (yaT a.2.2.2.2.2.1) (yaT b.2.2.2.2.2.1)=zbo
 generalize allB sameT a.2.2.2.2.2.2.1 b.2.2.2.2.2.2.1=ztg
 generalize allB sameR a.2.2.2.2.2.2.2.2.2.2.1 b.2.2.2.2.2.2.2.2.2.2.1=zr
 generalize allB sameG a.2.2.2.2.2.2.2.2.2.2.2.1 b.2.2.2.2.2.2.2.2.2.2.2.1=zg
 generalize allB sameI a.2.2.2.2.2.2.2.2.2.2.2.2.2.1 b.2.2.2.2.2.2.2.2.2.2.2.2.2.1=zns
 simp only[Bool.and_comm,Bool.and_left_comm,Bool.and_assoc]
end Go.Proofs.YtdlkpmohjhjmfaaGreatDoor
namespace Go.Proofs.YtdlkpmohjhjmfaaGreatDoor
open Go Go.Va Go.Proofs
variable (w:ByteArray) (b:ByteArray) (y:ByteArray) (i:Int) (bo:List Int) (tg:List yaz) (l:yaZ) (q:Bool) (d:yaL) (r:List yau) (g:List yat) (nu:Int) (ns:List Int) (af:ByteArray) (pr:ByteArray) (ma:ByteArray) (fr:ybh) (mx:Int) (u:Unit)
def eP (e:Q):List Int:=
 if e.1=1∨e.1=3 then eDef e.2.2.2.2.2.2.2.2.2.1 else if e.1=4 then eRules e.2.2.2.2.2.2.2.2.2.2.1 else if e.1=5 then eGrants e.2.2.2.2.2.2.2.2.2.2.2.1 else if e.1=6 then eT e.2.2.2.1++(eT (yaT e.2.2.2.2.2.1)++(eTags e.2.2.2.2.2.2.1++(eLock e.2.2.2.2.2.2.2.1))) else if e.1=7∨e.1=8 then eT e.2.2.2.1++(eN e.2.2.2.2.1) else if e.1=9 then eT e.2.2.2.1 else if e.1=10 then eT e.2.2.2.1++(eN e.2.2.2.2.1++(eF e.2.2.2.2.2.2.2.2.1)) else if e.1=11 then eT e.2.2.2.1++(eN e.2.2.2.2.1++(eLock e.2.2.2.2.2.2.2.1++(eF e.2.2.2.2.2.2.2.2.1))) else if e.1=12 then eT e.2.2.2.1++(eN e.2.2.2.2.1++(eLock e.2.2.2.2.2.2.2.1)) else if e.1=13 then eT e.2.2.2.1++(eN e.2.2.2.2.1++(eTags e.2.2.2.2.2.2.1)) else if e.1=14 then eT e.2.2.2.2.2.2.2.2.2.2.2.2.2.2.2.1++(eT e.2.2.2.2.2.2.2.2.2.2.2.2.2.2.2.2.1++(eT e.2.2.2.2.2.2.2.2.2.2.2.2.2.2.1++(eW e.2.2.2.2.2.2.2.2.2.2.2.2.2.2.2.2.2.2.1))) else if e.1=15 then eT e.2.2.2.2.2.2.2.2.2.2.2.2.2.2.2.1++(eT e.2.2.2.2.2.2.2.2.2.2.2.2.2.2.2.2.2.1.2.1++(eN e.2.2.2.2.2.2.2.2.2.2.2.2.2.2.2.2.2.1.2.2.1++(eW e.2.2.2.2.2.2.2.2.2.2.2.2.2.2.2.2.2.2.1))) else if e.1=16 then eT e.2.2.2.1++(eTags e.2.2.2.2.2.2.1) else if e.1=17 then eN e.2.2.2.2.1++(eW e.2.2.2.2.2.2.2.2.2.2.2.2.1++(eT (yaT e.2.2.2.2.2.1))) else if e.1=18 then eN e.2.2.2.2.1++(eW ((e.2.2.2.2.2.2.2.2.2.2.2.2.2.1.length:Nat):Int)++(e.2.2.2.2.2.2.2.2.2.2.2.2.2.1.flatMap eI)) else if e.1=19 then eN e.2.2.2.2.1 else if e.1=20 then eT e.2.2.2.1++(eT e.2.2.2.2.2.2.2.2.2.2.2.2.2.2.2.2.2.1.1++(eT e.2.2.2.2.2.2.2.2.2.2.2.2.2.2.2.2.2.1.2.1++(eN e.2.2.2.2.2.2.2.2.2.2.2.2.2.2.2.2.2.1.2.2.1))) else []
structure QR (e:Q):Prop where
 i:U64 e.2.2.2.2.1
 l:I64 e.2.2.2.2.2.2.2.1.2.1
 fi:U64 e.2.2.2.2.2.2.2.2.2.2.2.2.2.2.2.2.2.1.2.2.1
 ns:∀ x∈e.2.2.2.2.2.2.2.2.2.2.2.2.2.1,I64 x
theorem eP_1:eP (1,w,b,y,i,bo,tg,l,q,d,r,g,nu,ns,af,pr,ma,fr,mx,u)=eDef d:=rfl
theorem eP_2:eP (2,w,b,y,i,bo,tg,l,q,d,r,g,nu,ns,af,pr,ma,fr,mx,u)=[]:=rfl
theorem eP_3:eP (3,w,b,y,i,bo,tg,l,q,d,r,g,nu,ns,af,pr,ma,fr,mx,u)=eDef d:=rfl
theorem eP_4:eP (4,w,b,y,i,bo,tg,l,q,d,r,g,nu,ns,af,pr,ma,fr,mx,u)=eRules r:=rfl
theorem eP_5:eP (5,w,b,y,i,bo,tg,l,q,d,r,g,nu,ns,af,pr,ma,fr,mx,u)=eGrants g:=rfl
theorem eP_6:eP (6,w,b,y,i,bo,tg,l,q,d,r,g,nu,ns,af,pr,ma,fr,mx,u)=eT y++(eT (yaT bo)++(eTags tg++(eLock l))):=rfl
theorem eP_7:eP (7,w,b,y,i,bo,tg,l,q,d,r,g,nu,ns,af,pr,ma,fr,mx,u)=eT y++(eN i):=rfl
theorem eP_8:eP (8,w,b,y,i,bo,tg,l,q,d,r,g,nu,ns,af,pr,ma,fr,mx,u)=eT y++(eN i):=rfl
theorem eP_9:eP (9,w,b,y,i,bo,tg,l,q,d,r,g,nu,ns,af,pr,ma,fr,mx,u)=eT y:=rfl
theorem eP_10:eP (10,w,b,y,i,bo,tg,l,q,d,r,g,nu,ns,af,pr,ma,fr,mx,u)=eT y++(eN i++(eF q)):=rfl
theorem eP_11:eP (11,w,b,y,i,bo,tg,l,q,d,r,g,nu,ns,af,pr,ma,fr,mx,u)=eT y++(eN i++(eLock l++(eF q))):=rfl
theorem eP_12:eP (12,w,b,y,i,bo,tg,l,q,d,r,g,nu,ns,af,pr,ma,fr,mx,u)=eT y++(eN i++(eLock l)):=rfl
theorem eP_13:eP (13,w,b,y,i,bo,tg,l,q,d,r,g,nu,ns,af,pr,ma,fr,mx,u)=eT y++(eN i++(eTags tg)):=rfl
theorem eP_14:eP (14,w,b,y,i,bo,tg,l,q,d,r,g,nu,ns,af,pr,ma,fr,mx,u)=eT pr++(eT ma++(eT af++(eW mx))):=rfl
theorem eP_15:eP (15,w,b,y,i,bo,tg,l,q,d,r,g,nu,ns,af,pr,ma,fr,mx,u)=eT pr++(eT fr.2.1++(eN fr.2.2.1++(eW mx))):=rfl
theorem eP_16:eP (16,w,b,y,i,bo,tg,l,q,d,r,g,nu,ns,af,pr,ma,fr,mx,u)=eT y++(eTags tg):=rfl
theorem eP_17:eP (17,w,b,y,i,bo,tg,l,q,d,r,g,nu,ns,af,pr,ma,fr,mx,u)=eN i++(eW nu++(eT (yaT bo))):=rfl
theorem eP_18:eP (18,w,b,y,i,bo,tg,l,q,d,r,g,nu,ns,af,pr,ma,fr,mx,u)=eN i++(eW ((ns.length:Nat):Int)++(ns.flatMap eI)):=rfl
theorem eP_19:eP (19,w,b,y,i,bo,tg,l,q,d,r,g,nu,ns,af,pr,ma,fr,mx,u)=eN i:=rfl
theorem eP_20:eP (20,w,b,y,i,bo,tg,l,q,d,r,g,nu,ns,af,pr,ma,fr,mx,u)=eT y++(eT fr.1++(eT fr.2.1++(eN fr.2.2.1))):=rfl
theorem eP_21:eP (21,w,b,y,i,bo,tg,l,q,d,r,g,nu,ns,af,pr,ma,fr,mx,u)=[]:=rfl
theorem eP_22:eP (22,w,b,y,i,bo,tg,l,q,d,r,g,nu,ns,af,pr,ma,fr,mx,u)=[]:=rfl
theorem wKey {n:Nat}(hn:300≤n)(w:List Int)(u:Unit){e:Q}(hi:U64 e.2.2.2.2.1)(h:w.length+((eT e.2.2.2.1).length+(eN e.2.2.2.2.1).length)≤70368744177664):ycv.f n (w,u) e=some ((w++(eT e.2.2.2.1++eN e.2.2.2.2.1),()),()):=by
 rw[ycv.e0]
 try dsimp only
 rw[wText hn _ () (by omega),yab]
 try dsimp only
 rw[wNum hn _ () hi (by rw[List.length_append];omega),yab]
 simp only[List.append_assoc]
theorem wf_1 {n:Nat}(hn:300≤n)(hn2:n≤536870912)(w0:List Int)(z:Unit)(he:QB n (1,w,b,y,i,bo,tg,l,q,d,r,g,nu,ns,af,pr,ma,fr,mx,u))(hr:QR (1,w,b,y,i,bo,tg,l,q,d,r,g,nu,ns,af,pr,ma,fr,mx,u))(h:w0.length+(eP (1,w,b,y,i,bo,tg,l,q,d,r,g,nu,ns,af,pr,ma,fr,mx,u)).length≤70368744177664) :
  yag.f n (w0,z) (1,w,b,y,i,bo,tg,l,q,d,r,g,nu,ns,af,pr,ma,fr,mx,u)=some ((w0++eP (1,w,b,y,i,bo,tg,l,q,d,r,g,nu,ns,af,pr,ma,fr,mx,u),()),()):=by
 rw[eP_1]at h ⊢
 try simp only[List.length_append]at h
 rw[yag.e0]
 simp only[yag.e1,yag.e2,yaJ,Int.reduceBEq,bIf_t,bIf_f]
 try dsimp only
 rw[wDef hn _ () (by first | omega | (simp only[List.length_append];omega)),yab]
 try dsimp only
 try simp only[List.append_assoc]
theorem wf_2 {n:Nat}(hn:300≤n)(hn2:n≤536870912)(w0:List Int)(z:Unit)(he:QB n (2,w,b,y,i,bo,tg,l,q,d,r,g,nu,ns,af,pr,ma,fr,mx,u))(hr:QR (2,w,b,y,i,bo,tg,l,q,d,r,g,nu,ns,af,pr,ma,fr,mx,u))(h:w0.length+(eP (2,w,b,y,i,bo,tg,l,q,d,r,g,nu,ns,af,pr,ma,fr,mx,u)).length≤70368744177664) :
  yag.f n (w0,z) (2,w,b,y,i,bo,tg,l,q,d,r,g,nu,ns,af,pr,ma,fr,mx,u)=some ((w0++eP (2,w,b,y,i,bo,tg,l,q,d,r,g,nu,ns,af,pr,ma,fr,mx,u),()),()):=by
 rw[eP_2]at h ⊢
 try simp only[List.length_append]at h
 rw[yag.e0]
 simp only[yag.e1,yag.e2,yaJ,Int.reduceBEq,bIf_t,bIf_f]
 try dsimp only
 try rw[List.append_nil]
theorem wf_3 {n:Nat}(hn:300≤n)(hn2:n≤536870912)(w0:List Int)(z:Unit)(he:QB n (3,w,b,y,i,bo,tg,l,q,d,r,g,nu,ns,af,pr,ma,fr,mx,u))(hr:QR (3,w,b,y,i,bo,tg,l,q,d,r,g,nu,ns,af,pr,ma,fr,mx,u))(h:w0.length+(eP (3,w,b,y,i,bo,tg,l,q,d,r,g,nu,ns,af,pr,ma,fr,mx,u)).length≤70368744177664) :
  yag.f n (w0,z) (3,w,b,y,i,bo,tg,l,q,d,r,g,nu,ns,af,pr,ma,fr,mx,u)=some ((w0++eP (3,w,b,y,i,bo,tg,l,q,d,r,g,nu,ns,af,pr,ma,fr,mx,u),()),()):=by
 rw[eP_3]at h ⊢
 try simp only[List.length_append]at h
 rw[yag.e0]
 simp only[yag.e1,yag.e2,yaJ,Int.reduceBEq,bIf_t,bIf_f]
 try dsimp only
 rw[wDef hn _ () (by first | omega | (simp only[List.length_append];omega)),yab]
 try dsimp only
 try simp only[List.append_assoc]
theorem wf_4 {n:Nat}(hn:300≤n)(hn2:n≤536870912)(w0:List Int)(z:Unit)(he:QB n (4,w,b,y,i,bo,tg,l,q,d,r,g,nu,ns,af,pr,ma,fr,mx,u))(hr:QR (4,w,b,y,i,bo,tg,l,q,d,r,g,nu,ns,af,pr,ma,fr,mx,u))(h:w0.length+(eP (4,w,b,y,i,bo,tg,l,q,d,r,g,nu,ns,af,pr,ma,fr,mx,u)).length≤70368744177664) :
  yag.f n (w0,z) (4,w,b,y,i,bo,tg,l,q,d,r,g,nu,ns,af,pr,ma,fr,mx,u)=some ((w0++eP (4,w,b,y,i,bo,tg,l,q,d,r,g,nu,ns,af,pr,ma,fr,mx,u),()),()):=by
 rw[eP_4]at h ⊢
 try simp only[List.length_append]at h
 rw[yag.e0]
 simp only[yag.e1,yag.e2,yaJ,Int.reduceBEq,bIf_t,bIf_f]
 try dsimp only
 rw[wRules hn _ () he.r hn2 (by first | omega | (simp only[List.length_append];omega)),yab]
 try dsimp only
 try simp only[List.append_assoc]
theorem wf_5 {n:Nat}(hn:300≤n)(hn2:n≤536870912)(w0:List Int)(z:Unit)(he:QB n (5,w,b,y,i,bo,tg,l,q,d,r,g,nu,ns,af,pr,ma,fr,mx,u))(hr:QR (5,w,b,y,i,bo,tg,l,q,d,r,g,nu,ns,af,pr,ma,fr,mx,u))(h:w0.length+(eP (5,w,b,y,i,bo,tg,l,q,d,r,g,nu,ns,af,pr,ma,fr,mx,u)).length≤70368744177664) :
  yag.f n (w0,z) (5,w,b,y,i,bo,tg,l,q,d,r,g,nu,ns,af,pr,ma,fr,mx,u)=some ((w0++eP (5,w,b,y,i,bo,tg,l,q,d,r,g,nu,ns,af,pr,ma,fr,mx,u),()),()):=by
 rw[eP_5]at h ⊢
 try simp only[List.length_append]at h
 rw[yag.e0]
 simp only[yag.e1,yag.e2,yaJ,Int.reduceBEq,bIf_t,bIf_f]
 try dsimp only
 rw[wGrants hn _ () he.g hn2 (by first | omega | (simp only[List.length_append];omega)),yab]
 try dsimp only
 try simp only[List.append_assoc]
theorem wf_6 {n:Nat}(hn:300≤n)(hn2:n≤536870912)(w0:List Int)(z:Unit)(he:QB n (6,w,b,y,i,bo,tg,l,q,d,r,g,nu,ns,af,pr,ma,fr,mx,u))(hr:QR (6,w,b,y,i,bo,tg,l,q,d,r,g,nu,ns,af,pr,ma,fr,mx,u))(h:w0.length+(eP (6,w,b,y,i,bo,tg,l,q,d,r,g,nu,ns,af,pr,ma,fr,mx,u)).length≤70368744177664) :
  yag.f n (w0,z) (6,w,b,y,i,bo,tg,l,q,d,r,g,nu,ns,af,pr,ma,fr,mx,u)=some ((w0++eP (6,w,b,y,i,bo,tg,l,q,d,r,g,nu,ns,af,pr,ma,fr,mx,u),()),()):=by
 rw[eP_6]at h ⊢
 try simp only[List.length_append]at h
 rw[yag.e0]
 simp only[yag.e1,yag.e2,yaJ,Int.reduceBEq,bIf_t,bIf_f]
 try dsimp only
 rw[wText hn _ () (by first | omega | (simp only[List.length_append];omega)),yab]
 try dsimp only
 rw[wText hn _ () (by first | omega | (simp only[List.length_append];omega)),yab]
 try dsimp only
 rw[wTags hn _ () he.tg.1 hn2 (by first | omega | (simp only[List.length_append];omega)),yab]
 try dsimp only
 rw[wLock hn _ () hr.l (by first | omega | (simp only[List.length_append];omega)),yab]
 try dsimp only
 try simp only[List.append_assoc]
theorem wf_7 {n:Nat}(hn:300≤n)(hn2:n≤536870912)(w0:List Int)(z:Unit)(he:QB n (7,w,b,y,i,bo,tg,l,q,d,r,g,nu,ns,af,pr,ma,fr,mx,u))(hr:QR (7,w,b,y,i,bo,tg,l,q,d,r,g,nu,ns,af,pr,ma,fr,mx,u))(h:w0.length+(eP (7,w,b,y,i,bo,tg,l,q,d,r,g,nu,ns,af,pr,ma,fr,mx,u)).length≤70368744177664) :
  yag.f n (w0,z) (7,w,b,y,i,bo,tg,l,q,d,r,g,nu,ns,af,pr,ma,fr,mx,u)=some ((w0++eP (7,w,b,y,i,bo,tg,l,q,d,r,g,nu,ns,af,pr,ma,fr,mx,u),()),()):=by
 rw[eP_7]at h ⊢
 try simp only[List.length_append]at h
 rw[yag.e0]
 simp only[yag.e1,yag.e2,yaJ,Int.reduceBEq,bIf_t,bIf_f]
 try dsimp only
 rw[wKey hn _ () (e:=(7,w,b,y,i,bo,tg,l,q,d,r,g,nu,ns,af,pr,ma,fr,mx,u)) hr.i (by first | omega | (simp only[List.length_append];omega)),yab]
 try dsimp only
 try simp only[List.append_assoc]
theorem wf_8 {n:Nat}(hn:300≤n)(hn2:n≤536870912)(w0:List Int)(z:Unit)(he:QB n (8,w,b,y,i,bo,tg,l,q,d,r,g,nu,ns,af,pr,ma,fr,mx,u))(hr:QR (8,w,b,y,i,bo,tg,l,q,d,r,g,nu,ns,af,pr,ma,fr,mx,u))(h:w0.length+(eP (8,w,b,y,i,bo,tg,l,q,d,r,g,nu,ns,af,pr,ma,fr,mx,u)).length≤70368744177664) :
  yag.f n (w0,z) (8,w,b,y,i,bo,tg,l,q,d,r,g,nu,ns,af,pr,ma,fr,mx,u)=some ((w0++eP (8,w,b,y,i,bo,tg,l,q,d,r,g,nu,ns,af,pr,ma,fr,mx,u),()),()):=by
 rw[eP_8]at h ⊢
 try simp only[List.length_append]at h
 rw[yag.e0]
 simp only[yag.e1,yag.e2,yaJ,Int.reduceBEq,bIf_t,bIf_f]
 try dsimp only
 rw[wKey hn _ () (e:=(8,w,b,y,i,bo,tg,l,q,d,r,g,nu,ns,af,pr,ma,fr,mx,u)) hr.i (by first | omega | (simp only[List.length_append];omega)),yab]
 try dsimp only
 try simp only[List.append_assoc]
theorem wf_9 {n:Nat}(hn:300≤n)(hn2:n≤536870912)(w0:List Int)(z:Unit)(he:QB n (9,w,b,y,i,bo,tg,l,q,d,r,g,nu,ns,af,pr,ma,fr,mx,u))(hr:QR (9,w,b,y,i,bo,tg,l,q,d,r,g,nu,ns,af,pr,ma,fr,mx,u))(h:w0.length+(eP (9,w,b,y,i,bo,tg,l,q,d,r,g,nu,ns,af,pr,ma,fr,mx,u)).length≤70368744177664) :
  yag.f n (w0,z) (9,w,b,y,i,bo,tg,l,q,d,r,g,nu,ns,af,pr,ma,fr,mx,u)=some ((w0++eP (9,w,b,y,i,bo,tg,l,q,d,r,g,nu,ns,af,pr,ma,fr,mx,u),()),()):=by
 rw[eP_9]at h ⊢
 try simp only[List.length_append]at h
 rw[yag.e0]
 simp only[yag.e1,yag.e2,yaJ,Int.reduceBEq,bIf_t,bIf_f]
 try dsimp only
 rw[wText hn _ () (by first | omega | (simp only[List.length_append];omega)),yab]
 try dsimp only
 try simp only[List.append_assoc]
theorem wf_10 {n:Nat}(hn:300≤n)(hn2:n≤536870912)(w0:List Int)(z:Unit)(he:QB n (10,w,b,y,i,bo,tg,l,q,d,r,g,nu,ns,af,pr,ma,fr,mx,u))(hr:QR (10,w,b,y,i,bo,tg,l,q,d,r,g,nu,ns,af,pr,ma,fr,mx,u))(h:w0.length+(eP (10,w,b,y,i,bo,tg,l,q,d,r,g,nu,ns,af,pr,ma,fr,mx,u)).length≤70368744177664) :
  yag.f n (w0,z) (10,w,b,y,i,bo,tg,l,q,d,r,g,nu,ns,af,pr,ma,fr,mx,u)=some ((w0++eP (10,w,b,y,i,bo,tg,l,q,d,r,g,nu,ns,af,pr,ma,fr,mx,u),()),()):=by
 rw[eP_10]at h ⊢
 try simp only[List.length_append]at h
 rw[yag.e0]
 simp only[yag.e1,yag.e2,yaJ,Int.reduceBEq,bIf_t,bIf_f]
 try dsimp only
 rw[wKey hn _ () (e:=(10,w,b,y,i,bo,tg,l,q,d,r,g,nu,ns,af,pr,ma,fr,mx,u)) hr.i (by first | omega | (simp only[List.length_append];omega)),yab]
 try dsimp only
 rw[wFlag _ () (by first | omega | (simp only[List.length_append];omega)),yab]
 try dsimp only
 try simp only[List.append_assoc]
theorem wf_11 {n:Nat}(hn:300≤n)(hn2:n≤536870912)(w0:List Int)(z:Unit)(he:QB n (11,w,b,y,i,bo,tg,l,q,d,r,g,nu,ns,af,pr,ma,fr,mx,u))(hr:QR (11,w,b,y,i,bo,tg,l,q,d,r,g,nu,ns,af,pr,ma,fr,mx,u))(h:w0.length+(eP (11,w,b,y,i,bo,tg,l,q,d,r,g,nu,ns,af,pr,ma,fr,mx,u)).length≤70368744177664) :
  yag.f n (w0,z) (11,w,b,y,i,bo,tg,l,q,d,r,g,nu,ns,af,pr,ma,fr,mx,u)=some ((w0++eP (11,w,b,y,i,bo,tg,l,q,d,r,g,nu,ns,af,pr,ma,fr,mx,u),()),()):=by
 rw[eP_11]at h ⊢
 try simp only[List.length_append]at h
 rw[yag.e0]
 simp only[yag.e1,yag.e2,yaJ,Int.reduceBEq,bIf_t,bIf_f]
 try dsimp only
 rw[wKey hn _ () (e:=(11,w,b,y,i,bo,tg,l,q,d,r,g,nu,ns,af,pr,ma,fr,mx,u)) hr.i (by first | omega | (simp only[List.length_append];omega)),yab]
 try dsimp only
 rw[wLock hn _ () hr.l (by first | omega | (simp only[List.length_append];omega)),yab]
 try dsimp only
 rw[wFlag _ () (by first | omega | (simp only[List.length_append];omega)),yab]
 try dsimp only
 try simp only[List.append_assoc]
theorem wf_12 {n:Nat}(hn:300≤n)(hn2:n≤536870912)(w0:List Int)(z:Unit)(he:QB n (12,w,b,y,i,bo,tg,l,q,d,r,g,nu,ns,af,pr,ma,fr,mx,u))(hr:QR (12,w,b,y,i,bo,tg,l,q,d,r,g,nu,ns,af,pr,ma,fr,mx,u))(h:w0.length+(eP (12,w,b,y,i,bo,tg,l,q,d,r,g,nu,ns,af,pr,ma,fr,mx,u)).length≤70368744177664) :
  yag.f n (w0,z) (12,w,b,y,i,bo,tg,l,q,d,r,g,nu,ns,af,pr,ma,fr,mx,u)=some ((w0++eP (12,w,b,y,i,bo,tg,l,q,d,r,g,nu,ns,af,pr,ma,fr,mx,u),()),()):=by
 rw[eP_12]at h ⊢
 try simp only[List.length_append]at h
 rw[yag.e0]
 simp only[yag.e1,yag.e2,yaJ,Int.reduceBEq,bIf_t,bIf_f]
 try dsimp only
 rw[wKey hn _ () (e:=(12,w,b,y,i,bo,tg,l,q,d,r,g,nu,ns,af,pr,ma,fr,mx,u)) hr.i (by first | omega | (simp only[List.length_append];omega)),yab]
 try dsimp only
 rw[wLock hn _ () hr.l (by first | omega | (simp only[List.length_append];omega)),yab]
 try dsimp only
 try simp only[List.append_assoc]
theorem wf_13 {n:Nat}(hn:300≤n)(hn2:n≤536870912)(w0:List Int)(z:Unit)(he:QB n (13,w,b,y,i,bo,tg,l,q,d,r,g,nu,ns,af,pr,ma,fr,mx,u))(hr:QR (13,w,b,y,i,bo,tg,l,q,d,r,g,nu,ns,af,pr,ma,fr,mx,u))(h:w0.length+(eP (13,w,b,y,i,bo,tg,l,q,d,r,g,nu,ns,af,pr,ma,fr,mx,u)).length≤70368744177664) :
  yag.f n (w0,z) (13,w,b,y,i,bo,tg,l,q,d,r,g,nu,ns,af,pr,ma,fr,mx,u)=some ((w0++eP (13,w,b,y,i,bo,tg,l,q,d,r,g,nu,ns,af,pr,ma,fr,mx,u),()),()):=by
 rw[eP_13]at h ⊢
 try simp only[List.length_append]at h
 rw[yag.e0]
 simp only[yag.e1,yag.e2,yaJ,Int.reduceBEq,bIf_t,bIf_f]
 try dsimp only
 rw[wKey hn _ () (e:=(13,w,b,y,i,bo,tg,l,q,d,r,g,nu,ns,af,pr,ma,fr,mx,u)) hr.i (by first | omega | (simp only[List.length_append];omega)),yab]
 try dsimp only
 rw[wTags hn _ () he.tg.1 hn2 (by first | omega | (simp only[List.length_append];omega)),yab]
 try dsimp only
 try simp only[List.append_assoc]
theorem wf_14 {n:Nat}(hn:300≤n)(hn2:n≤536870912)(w0:List Int)(z:Unit)(he:QB n (14,w,b,y,i,bo,tg,l,q,d,r,g,nu,ns,af,pr,ma,fr,mx,u))(hr:QR (14,w,b,y,i,bo,tg,l,q,d,r,g,nu,ns,af,pr,ma,fr,mx,u))(h:w0.length+(eP (14,w,b,y,i,bo,tg,l,q,d,r,g,nu,ns,af,pr,ma,fr,mx,u)).length≤70368744177664) :
  yag.f n (w0,z) (14,w,b,y,i,bo,tg,l,q,d,r,g,nu,ns,af,pr,ma,fr,mx,u)=some ((w0++eP (14,w,b,y,i,bo,tg,l,q,d,r,g,nu,ns,af,pr,ma,fr,mx,u),()),()):=by
 rw[eP_14]at h ⊢
 try simp only[List.length_append]at h
 rw[yag.e0]
 simp only[yag.e1,yag.e2,yaJ,Int.reduceBEq,bIf_t,bIf_f]
 try dsimp only
 rw[wText hn _ () (by first | omega | (simp only[List.length_append];omega)),yab]
 try dsimp only
 rw[wText hn _ () (by first | omega | (simp only[List.length_append];omega)),yab]
 try dsimp only
 rw[wText hn _ () (by first | omega | (simp only[List.length_append];omega)),yab]
 try dsimp only
 rw[wW hn _ () (by first | omega | (simp only[List.length_append];omega)),yab]
 try dsimp only
 try simp only[List.append_assoc]
theorem wf_15 {n:Nat}(hn:300≤n)(hn2:n≤536870912)(w0:List Int)(z:Unit)(he:QB n (15,w,b,y,i,bo,tg,l,q,d,r,g,nu,ns,af,pr,ma,fr,mx,u))(hr:QR (15,w,b,y,i,bo,tg,l,q,d,r,g,nu,ns,af,pr,ma,fr,mx,u))(h:w0.length+(eP (15,w,b,y,i,bo,tg,l,q,d,r,g,nu,ns,af,pr,ma,fr,mx,u)).length≤70368744177664) :
  yag.f n (w0,z) (15,w,b,y,i,bo,tg,l,q,d,r,g,nu,ns,af,pr,ma,fr,mx,u)=some ((w0++eP (15,w,b,y,i,bo,tg,l,q,d,r,g,nu,ns,af,pr,ma,fr,mx,u),()),()):=by
 rw[eP_15]at h ⊢
 try simp only[List.length_append]at h
 rw[yag.e0]
 simp only[yag.e1,yag.e2,yaJ,Int.reduceBEq,bIf_t,bIf_f]
 try dsimp only
 rw[wText hn _ () (by first | omega | (simp only[List.length_append];omega)),yab]
 try dsimp only
 rw[wText hn _ () (by first | omega | (simp only[List.length_append];omega)),yab]
 try dsimp only
 rw[wNum hn _ () hr.fi (by first | omega | (simp only[List.length_append];omega)),yab]
 try dsimp only
 rw[wW hn _ () (by first | omega | (simp only[List.length_append];omega)),yab]
 try dsimp only
 try simp only[List.append_assoc]
theorem wf_16 {n:Nat}(hn:300≤n)(hn2:n≤536870912)(w0:List Int)(z:Unit)(he:QB n (16,w,b,y,i,bo,tg,l,q,d,r,g,nu,ns,af,pr,ma,fr,mx,u))(hr:QR (16,w,b,y,i,bo,tg,l,q,d,r,g,nu,ns,af,pr,ma,fr,mx,u))(h:w0.length+(eP (16,w,b,y,i,bo,tg,l,q,d,r,g,nu,ns,af,pr,ma,fr,mx,u)).length≤70368744177664) :
  yag.f n (w0,z) (16,w,b,y,i,bo,tg,l,q,d,r,g,nu,ns,af,pr,ma,fr,mx,u)=some ((w0++eP (16,w,b,y,i,bo,tg,l,q,d,r,g,nu,ns,af,pr,ma,fr,mx,u),()),()):=by
 rw[eP_16]at h ⊢
 try simp only[List.length_append]at h
 rw[yag.e0]
 simp only[yag.e1,yag.e2,yaJ,Int.reduceBEq,bIf_t,bIf_f]
 try dsimp only
 rw[wText hn _ () (by first | omega | (simp only[List.length_append];omega)),yab]
 try dsimp only
 rw[wTags hn _ () he.tg.1 hn2 (by first | omega | (simp only[List.length_append];omega)),yab]
 try dsimp only
 try simp only[List.append_assoc]
theorem wf_17 {n:Nat}(hn:300≤n)(hn2:n≤536870912)(w0:List Int)(z:Unit)(he:QB n (17,w,b,y,i,bo,tg,l,q,d,r,g,nu,ns,af,pr,ma,fr,mx,u))(hr:QR (17,w,b,y,i,bo,tg,l,q,d,r,g,nu,ns,af,pr,ma,fr,mx,u))(h:w0.length+(eP (17,w,b,y,i,bo,tg,l,q,d,r,g,nu,ns,af,pr,ma,fr,mx,u)).length≤70368744177664) :
  yag.f n (w0,z) (17,w,b,y,i,bo,tg,l,q,d,r,g,nu,ns,af,pr,ma,fr,mx,u)=some ((w0++eP (17,w,b,y,i,bo,tg,l,q,d,r,g,nu,ns,af,pr,ma,fr,mx,u),()),()):=by
 rw[eP_17]at h ⊢
 try simp only[List.length_append]at h
 rw[yag.e0]
 simp only[yag.e1,yag.e2,yaJ,Int.reduceBEq,bIf_t,bIf_f]
 try dsimp only
 rw[wNum hn _ () hr.i (by first | omega | (simp only[List.length_append];omega)),yab]
 try dsimp only
 rw[wW hn _ () (by first | omega | (simp only[List.length_append];omega)),yab]
 try dsimp only
 rw[wText hn _ () (by first | omega | (simp only[List.length_append];omega)),yab]
 try dsimp only
 try simp only[List.append_assoc]
theorem wf_18 {n:Nat}(hn:300≤n)(hn2:n≤536870912)(w0:List Int)(z:Unit)(he:QB n (18,w,b,y,i,bo,tg,l,q,d,r,g,nu,ns,af,pr,ma,fr,mx,u))(hr:QR (18,w,b,y,i,bo,tg,l,q,d,r,g,nu,ns,af,pr,ma,fr,mx,u))(h:w0.length+(eP (18,w,b,y,i,bo,tg,l,q,d,r,g,nu,ns,af,pr,ma,fr,mx,u)).length≤70368744177664) :
  yag.f n (w0,z) (18,w,b,y,i,bo,tg,l,q,d,r,g,nu,ns,af,pr,ma,fr,mx,u)=some ((w0++eP (18,w,b,y,i,bo,tg,l,q,d,r,g,nu,ns,af,pr,ma,fr,mx,u),()),()):=by
 rw[eP_18]at h ⊢
 try simp only[List.length_append]at h
 rw[yag.e0]
 simp only[yag.e1,yag.e2,yaJ,Int.reduceBEq,bIf_t,bIf_f]
 try dsimp only
 rw[wNum hn _ () hr.i (by first | omega | (simp only[List.length_append];omega)),yab]
 try dsimp only
 rw[wW hn _ () (by first | omega | (simp only[List.length_append];omega)),yab]
 try dsimp only
 have hlen:ns.length<n:=he.ns
 have:=yeZ (l:=ns) (0:Int) eI 70368744177664 (λm k L=>yag.J3 n m (ns,((ns.length:Nat):Int),k,(((),()),()),(L,()),())) (λL=>some ((L,()),()))
  (λm k L hk hL=>by
   have hx:I64 (ns.getD k 0):=hr.ns _ (yc5 (d:=0) hk)
   try dsimp only
   rw[yag.e3,yap,decide_eq_true (by omega),yaq,yar ⟨by omega,by omega⟩,Int.toNat_natCast,ybp k (by omega)]
   try dsimp only
   rw[wInt hn _ () hx (by omega),yab])
  (λm L hL=>by
   try dsimp only
   rw[yag.e3,yap,decide_eq_false (by omega),yaj]) n 0 _ (by omega) (by omega) (show ((w0++eN i)++eW ((ns.length:Nat):Int)).length+((ns.drop 0).flatMap eI).length≤70368744177664 by rw[List.drop_zero];simp only[List.length_append];omega)
 try dsimp only at this
 rw[show ((0:Nat):Int)=0 from rfl,List.drop_zero]at this
 rw[this]
 try simp only[List.append_assoc]
theorem wf_19 {n:Nat}(hn:300≤n)(hn2:n≤536870912)(w0:List Int)(z:Unit)(he:QB n (19,w,b,y,i,bo,tg,l,q,d,r,g,nu,ns,af,pr,ma,fr,mx,u))(hr:QR (19,w,b,y,i,bo,tg,l,q,d,r,g,nu,ns,af,pr,ma,fr,mx,u))(h:w0.length+(eP (19,w,b,y,i,bo,tg,l,q,d,r,g,nu,ns,af,pr,ma,fr,mx,u)).length≤70368744177664) :
  yag.f n (w0,z) (19,w,b,y,i,bo,tg,l,q,d,r,g,nu,ns,af,pr,ma,fr,mx,u)=some ((w0++eP (19,w,b,y,i,bo,tg,l,q,d,r,g,nu,ns,af,pr,ma,fr,mx,u),()),()):=by
 rw[eP_19]at h ⊢
 try simp only[List.length_append]at h
 rw[yag.e0]
 simp only[yag.e1,yag.e2,yaJ,Int.reduceBEq,bIf_t,bIf_f]
 try dsimp only
 rw[wNum hn _ () hr.i (by first | omega | (simp only[List.length_append];omega)),yab]
 try dsimp only
 try simp only[List.append_assoc]
theorem wf_20 {n:Nat}(hn:300≤n)(hn2:n≤536870912)(w0:List Int)(z:Unit)(he:QB n (20,w,b,y,i,bo,tg,l,q,d,r,g,nu,ns,af,pr,ma,fr,mx,u))(hr:QR (20,w,b,y,i,bo,tg,l,q,d,r,g,nu,ns,af,pr,ma,fr,mx,u))(h:w0.length+(eP (20,w,b,y,i,bo,tg,l,q,d,r,g,nu,ns,af,pr,ma,fr,mx,u)).length≤70368744177664) :
  yag.f n (w0,z) (20,w,b,y,i,bo,tg,l,q,d,r,g,nu,ns,af,pr,ma,fr,mx,u)=some ((w0++eP (20,w,b,y,i,bo,tg,l,q,d,r,g,nu,ns,af,pr,ma,fr,mx,u),()),()):=by
 rw[eP_20]at h ⊢
 try simp only[List.length_append]at h
 rw[yag.e0]
 simp only[yag.e1,yag.e2,yaJ,Int.reduceBEq,bIf_t,bIf_f]
 try dsimp only
 rw[wText hn _ () (by first | omega | (simp only[List.length_append];omega)),yab]
 try dsimp only
 rw[wText hn _ () (by first | omega | (simp only[List.length_append];omega)),yab]
 try dsimp only
 rw[wText hn _ () (by first | omega | (simp only[List.length_append];omega)),yab]
 try dsimp only
 rw[wNum hn _ () hr.fi (by first | omega | (simp only[List.length_append];omega)),yab]
 try dsimp only
 try simp only[List.append_assoc]
theorem wf_21 {n:Nat}(hn:300≤n)(hn2:n≤536870912)(w0:List Int)(z:Unit)(he:QB n (21,w,b,y,i,bo,tg,l,q,d,r,g,nu,ns,af,pr,ma,fr,mx,u))(hr:QR (21,w,b,y,i,bo,tg,l,q,d,r,g,nu,ns,af,pr,ma,fr,mx,u))(h:w0.length+(eP (21,w,b,y,i,bo,tg,l,q,d,r,g,nu,ns,af,pr,ma,fr,mx,u)).length≤70368744177664) :
  yag.f n (w0,z) (21,w,b,y,i,bo,tg,l,q,d,r,g,nu,ns,af,pr,ma,fr,mx,u)=some ((w0++eP (21,w,b,y,i,bo,tg,l,q,d,r,g,nu,ns,af,pr,ma,fr,mx,u),()),()):=by
 rw[eP_21]at h ⊢
 try simp only[List.length_append]at h
 rw[yag.e0]
 simp only[yag.e1,yag.e2,yaJ,Int.reduceBEq,bIf_t,bIf_f]
 try dsimp only
 try rw[List.append_nil]
theorem wf_22 {n:Nat}(hn:300≤n)(hn2:n≤536870912)(w0:List Int)(z:Unit)(he:QB n (22,w,b,y,i,bo,tg,l,q,d,r,g,nu,ns,af,pr,ma,fr,mx,u))(hr:QR (22,w,b,y,i,bo,tg,l,q,d,r,g,nu,ns,af,pr,ma,fr,mx,u))(h:w0.length+(eP (22,w,b,y,i,bo,tg,l,q,d,r,g,nu,ns,af,pr,ma,fr,mx,u)).length≤70368744177664) :
  yag.f n (w0,z) (22,w,b,y,i,bo,tg,l,q,d,r,g,nu,ns,af,pr,ma,fr,mx,u)=some ((w0++eP (22,w,b,y,i,bo,tg,l,q,d,r,g,nu,ns,af,pr,ma,fr,mx,u),()),()):=by
 rw[eP_22]at h ⊢
 try simp only[List.length_append]at h
 rw[yag.e0]
 simp only[yag.e1,yag.e2,yaJ,Int.reduceBEq,bIf_t,bIf_f]
 try dsimp only
 try rw[List.append_nil]
theorem qNum {n:Nat}(hn:300≤n)(x:Int):ydg.f n x=some (yaT (eW x),()):=by
 rw[ydg.e0,ref10_Num hn (yft _),yab];rfl
theorem rf_1 {n:Nat}(hn:300≤n)(hn2:n≤536870912)(he:QB n (1,w,b,y,i,bo,tg,l,q,d,r,g,nu,ns,af,pr,ma,fr,mx,u))(hr:QR (1,w,b,y,i,bo,tg,l,q,d,r,g,nu,ns,af,pr,ma,fr,mx,u))(h:(eP (1,w,b,y,i,bo,tg,l,q,d,r,g,nu,ns,af,pr,ma,fr,mx,u)).length≤7036874417766) :
  yal.f n (1,w,b,y,i,bo,tg,l,q,d,r,g,nu,ns,af,pr,ma,fr,mx,u)=some (yaT (eP (1,w,b,y,i,bo,tg,l,q,d,r,g,nu,ns,af,pr,ma,fr,mx,u)),()):=by
 have hy:y.size<n:=he.y
 have h1:=ycV y
 have h2:=ydH i
 rw[eP_1]at h ⊢
 try simp only[List.length_append]at h
 rw[yal.e0]
 try dsimp only
 rw[pText hn (by omega),yab]
 try dsimp only
 rw[pNum hn hr.i,yab]
 try dsimp only
 rw[yah,yah,yar (by omega),← yaE]
 simp only[yal.e1,yal.e2,yaJ,Int.reduceBEq,bIf_t,bIf_f]
 try dsimp only
 rw[pDef hn (by omega),yab]
 try dsimp only
 try simp only[List.append_assoc]
theorem rf_2 {n:Nat}(hn:300≤n)(hn2:n≤536870912)(he:QB n (2,w,b,y,i,bo,tg,l,q,d,r,g,nu,ns,af,pr,ma,fr,mx,u))(hr:QR (2,w,b,y,i,bo,tg,l,q,d,r,g,nu,ns,af,pr,ma,fr,mx,u))(h:(eP (2,w,b,y,i,bo,tg,l,q,d,r,g,nu,ns,af,pr,ma,fr,mx,u)).length≤7036874417766) :
  yal.f n (2,w,b,y,i,bo,tg,l,q,d,r,g,nu,ns,af,pr,ma,fr,mx,u)=some (yaT (eP (2,w,b,y,i,bo,tg,l,q,d,r,g,nu,ns,af,pr,ma,fr,mx,u)),()):=by
 have hy:y.size<n:=he.y
 have h1:=ycV y
 have h2:=ydH i
 rw[eP_2]at h ⊢
 try simp only[List.length_append]at h
 rw[yal.e0]
 try dsimp only
 rw[pText hn (by omega),yab]
 try dsimp only
 rw[pNum hn hr.i,yab]
 try dsimp only
 rw[yah,yah,yar (by omega),← yaE]
 simp only[yal.e1,yal.e2,yaJ,Int.reduceBEq,bIf_t,bIf_f]
 try dsimp only
 try (rw[yal.e5];rfl)
 try simp only[List.append_assoc]
theorem rf_3 {n:Nat}(hn:300≤n)(hn2:n≤536870912)(he:QB n (3,w,b,y,i,bo,tg,l,q,d,r,g,nu,ns,af,pr,ma,fr,mx,u))(hr:QR (3,w,b,y,i,bo,tg,l,q,d,r,g,nu,ns,af,pr,ma,fr,mx,u))(h:(eP (3,w,b,y,i,bo,tg,l,q,d,r,g,nu,ns,af,pr,ma,fr,mx,u)).length≤7036874417766) :
  yal.f n (3,w,b,y,i,bo,tg,l,q,d,r,g,nu,ns,af,pr,ma,fr,mx,u)=some (yaT (eP (3,w,b,y,i,bo,tg,l,q,d,r,g,nu,ns,af,pr,ma,fr,mx,u)),()):=by
 have hy:y.size<n:=he.y
 have h1:=ycV y
 have h2:=ydH i
 rw[eP_3]at h ⊢
 try simp only[List.length_append]at h
 rw[yal.e0]
 try dsimp only
 rw[pText hn (by omega),yab]
 try dsimp only
 rw[pNum hn hr.i,yab]
 try dsimp only
 rw[yah,yah,yar (by omega),← yaE]
 simp only[yal.e1,yal.e2,yaJ,Int.reduceBEq,bIf_t,bIf_f]
 try dsimp only
 rw[pDef hn (by omega),yab]
 try dsimp only
 try simp only[List.append_assoc]
theorem rf_4 {n:Nat}(hn:300≤n)(hn2:n≤536870912)(he:QB n (4,w,b,y,i,bo,tg,l,q,d,r,g,nu,ns,af,pr,ma,fr,mx,u))(hr:QR (4,w,b,y,i,bo,tg,l,q,d,r,g,nu,ns,af,pr,ma,fr,mx,u))(h:(eP (4,w,b,y,i,bo,tg,l,q,d,r,g,nu,ns,af,pr,ma,fr,mx,u)).length≤7036874417766) :
  yal.f n (4,w,b,y,i,bo,tg,l,q,d,r,g,nu,ns,af,pr,ma,fr,mx,u)=some (yaT (eP (4,w,b,y,i,bo,tg,l,q,d,r,g,nu,ns,af,pr,ma,fr,mx,u)),()):=by
 have hy:y.size<n:=he.y
 have h1:=ycV y
 have h2:=ydH i
 rw[eP_4]at h ⊢
 try simp only[List.length_append]at h
 rw[yal.e0]
 try dsimp only
 rw[pText hn (by omega),yab]
 try dsimp only
 rw[pNum hn hr.i,yab]
 try dsimp only
 rw[yah,yah,yar (by omega),← yaE]
 simp only[yal.e1,yal.e2,yaJ,Int.reduceBEq,bIf_t,bIf_f]
 try dsimp only
 rw[pRules (l:=r) hn he.r hn2 (by omega),yab]
 try dsimp only
 try simp only[List.append_assoc]
theorem rf_5 {n:Nat}(hn:300≤n)(hn2:n≤536870912)(he:QB n (5,w,b,y,i,bo,tg,l,q,d,r,g,nu,ns,af,pr,ma,fr,mx,u))(hr:QR (5,w,b,y,i,bo,tg,l,q,d,r,g,nu,ns,af,pr,ma,fr,mx,u))(h:(eP (5,w,b,y,i,bo,tg,l,q,d,r,g,nu,ns,af,pr,ma,fr,mx,u)).length≤7036874417766) :
  yal.f n (5,w,b,y,i,bo,tg,l,q,d,r,g,nu,ns,af,pr,ma,fr,mx,u)=some (yaT (eP (5,w,b,y,i,bo,tg,l,q,d,r,g,nu,ns,af,pr,ma,fr,mx,u)),()):=by
 have hy:y.size<n:=he.y
 have h1:=ycV y
 have h2:=ydH i
 rw[eP_5]at h ⊢
 try simp only[List.length_append]at h
 rw[yal.e0]
 try dsimp only
 rw[pText hn (by omega),yab]
 try dsimp only
 rw[pNum hn hr.i,yab]
 try dsimp only
 rw[yah,yah,yar (by omega),← yaE]
 simp only[yal.e1,yal.e2,yaJ,Int.reduceBEq,bIf_t,bIf_f]
 try dsimp only
 rw[pGrants (l:=g) hn he.g hn2 (by omega),yab]
 try dsimp only
 try simp only[List.append_assoc]
theorem rf_6 {n:Nat}(hn:300≤n)(hn2:n≤536870912)(he:QB n (6,w,b,y,i,bo,tg,l,q,d,r,g,nu,ns,af,pr,ma,fr,mx,u))(hr:QR (6,w,b,y,i,bo,tg,l,q,d,r,g,nu,ns,af,pr,ma,fr,mx,u))(h:(eP (6,w,b,y,i,bo,tg,l,q,d,r,g,nu,ns,af,pr,ma,fr,mx,u)).length≤7036874417766) :
  yal.f n (6,w,b,y,i,bo,tg,l,q,d,r,g,nu,ns,af,pr,ma,fr,mx,u)=some (yaT (eP (6,w,b,y,i,bo,tg,l,q,d,r,g,nu,ns,af,pr,ma,fr,mx,u)),()):=by
 have hy:y.size<n:=he.y
 have h1:=ycV y
 have h2:=ydH i
 rw[eP_6]at h ⊢
 try simp only[List.length_append]at h
 rw[yal.e0]
 try dsimp only
 rw[pText hn (by omega),yab]
 try dsimp only
 rw[pNum hn hr.i,yab]
 try dsimp only
 rw[yah,yah,yar (by omega),← yaE]
 simp only[yal.e1,yal.e2,yaJ,Int.reduceBEq,bIf_t,bIf_f]
 try dsimp only
 rw[pText hn (by omega),yab]
 try dsimp only
 rw[yah,yah,yar (by first | omega | (simp only[List.length_append];omega) | (simp only[List.length_append,yah];omega)),← yaE]
 try dsimp only
 rw[pTags (l:=tg) hn he.tg hn2 (by omega),yab]
 try dsimp only
 rw[yah,yah,yar (by first | omega | (simp only[List.length_append];omega) | (simp only[List.length_append,yah];omega)),← yaE]
 try dsimp only
 rw[pLock (l:=l) hn hr.l (by omega),yab]
 try dsimp only
 rw[yah,yah,yar (by first | omega | (simp only[List.length_append];omega) | (simp only[List.length_append,yah];omega)),← yaE]
 try dsimp only
 try simp only[List.append_assoc]
theorem rf_7 {n:Nat}(hn:300≤n)(hn2:n≤536870912)(he:QB n (7,w,b,y,i,bo,tg,l,q,d,r,g,nu,ns,af,pr,ma,fr,mx,u))(hr:QR (7,w,b,y,i,bo,tg,l,q,d,r,g,nu,ns,af,pr,ma,fr,mx,u))(h:(eP (7,w,b,y,i,bo,tg,l,q,d,r,g,nu,ns,af,pr,ma,fr,mx,u)).length≤7036874417766) :
  yal.f n (7,w,b,y,i,bo,tg,l,q,d,r,g,nu,ns,af,pr,ma,fr,mx,u)=some (yaT (eP (7,w,b,y,i,bo,tg,l,q,d,r,g,nu,ns,af,pr,ma,fr,mx,u)),()):=by
 have hy:y.size<n:=he.y
 have h1:=ycV y
 have h2:=ydH i
 rw[eP_7]at h ⊢
 try simp only[List.length_append]at h
 rw[yal.e0]
 try dsimp only
 rw[pText hn (by omega),yab]
 try dsimp only
 rw[pNum hn hr.i,yab]
 try dsimp only
 rw[yah,yah,yar (by omega),← yaE]
 simp only[yal.e1,yal.e2,yaJ,Int.reduceBEq,bIf_t,bIf_f]
 try dsimp only
 try simp only[List.append_assoc]
theorem rf_8 {n:Nat}(hn:300≤n)(hn2:n≤536870912)(he:QB n (8,w,b,y,i,bo,tg,l,q,d,r,g,nu,ns,af,pr,ma,fr,mx,u))(hr:QR (8,w,b,y,i,bo,tg,l,q,d,r,g,nu,ns,af,pr,ma,fr,mx,u))(h:(eP (8,w,b,y,i,bo,tg,l,q,d,r,g,nu,ns,af,pr,ma,fr,mx,u)).length≤7036874417766) :
  yal.f n (8,w,b,y,i,bo,tg,l,q,d,r,g,nu,ns,af,pr,ma,fr,mx,u)=some (yaT (eP (8,w,b,y,i,bo,tg,l,q,d,r,g,nu,ns,af,pr,ma,fr,mx,u)),()):=by
 have hy:y.size<n:=he.y
 have h1:=ycV y
 have h2:=ydH i
 rw[eP_8]at h ⊢
 try simp only[List.length_append]at h
 rw[yal.e0]
 try dsimp only
 rw[pText hn (by omega),yab]
 try dsimp only
 rw[pNum hn hr.i,yab]
 try dsimp only
 rw[yah,yah,yar (by omega),← yaE]
 simp only[yal.e1,yal.e2,yaJ,Int.reduceBEq,bIf_t,bIf_f]
 try dsimp only
 try simp only[List.append_assoc]
theorem rf_9 {n:Nat}(hn:300≤n)(hn2:n≤536870912)(he:QB n (9,w,b,y,i,bo,tg,l,q,d,r,g,nu,ns,af,pr,ma,fr,mx,u))(hr:QR (9,w,b,y,i,bo,tg,l,q,d,r,g,nu,ns,af,pr,ma,fr,mx,u))(h:(eP (9,w,b,y,i,bo,tg,l,q,d,r,g,nu,ns,af,pr,ma,fr,mx,u)).length≤7036874417766) :
  yal.f n (9,w,b,y,i,bo,tg,l,q,d,r,g,nu,ns,af,pr,ma,fr,mx,u)=some (yaT (eP (9,w,b,y,i,bo,tg,l,q,d,r,g,nu,ns,af,pr,ma,fr,mx,u)),()):=by
 have hy:y.size<n:=he.y
 have h1:=ycV y
 have h2:=ydH i
 rw[eP_9]at h ⊢
 try simp only[List.length_append]at h
 rw[yal.e0]
 try dsimp only
 rw[pText hn (by omega),yab]
 try dsimp only
 rw[pNum hn hr.i,yab]
 try dsimp only
 rw[yah,yah,yar (by omega),← yaE]
 simp only[yal.e1,yal.e2,yaJ,Int.reduceBEq,bIf_t,bIf_f]
 try dsimp only
 try simp only[List.append_assoc]
theorem rf_10 {n:Nat}(hn:300≤n)(hn2:n≤536870912)(he:QB n (10,w,b,y,i,bo,tg,l,q,d,r,g,nu,ns,af,pr,ma,fr,mx,u))(hr:QR (10,w,b,y,i,bo,tg,l,q,d,r,g,nu,ns,af,pr,ma,fr,mx,u))(h:(eP (10,w,b,y,i,bo,tg,l,q,d,r,g,nu,ns,af,pr,ma,fr,mx,u)).length≤7036874417766) :
  yal.f n (10,w,b,y,i,bo,tg,l,q,d,r,g,nu,ns,af,pr,ma,fr,mx,u)=some (yaT (eP (10,w,b,y,i,bo,tg,l,q,d,r,g,nu,ns,af,pr,ma,fr,mx,u)),()):=by
 have hy:y.size<n:=he.y
 have h1:=ycV y
 have h2:=ydH i
 rw[eP_10]at h ⊢
 try simp only[List.length_append]at h
 rw[yal.e0]
 try dsimp only
 rw[pText hn (by omega),yab]
 try dsimp only
 rw[pNum hn hr.i,yab]
 try dsimp only
 rw[yah,yah,yar (by omega),← yaE]
 simp only[yal.e1,yal.e2,yaJ,Int.reduceBEq,bIf_t,bIf_f]
 try dsimp only
 rw[pFlag,yab]
 try dsimp only
 rw[yah,yah,yar (by first | omega | (simp only[List.length_append];omega) | (simp only[List.length_append,yah];omega)),← yaE]
 try dsimp only
 try simp only[List.append_assoc]
theorem rf_11 {n:Nat}(hn:300≤n)(hn2:n≤536870912)(he:QB n (11,w,b,y,i,bo,tg,l,q,d,r,g,nu,ns,af,pr,ma,fr,mx,u))(hr:QR (11,w,b,y,i,bo,tg,l,q,d,r,g,nu,ns,af,pr,ma,fr,mx,u))(h:(eP (11,w,b,y,i,bo,tg,l,q,d,r,g,nu,ns,af,pr,ma,fr,mx,u)).length≤7036874417766) :
  yal.f n (11,w,b,y,i,bo,tg,l,q,d,r,g,nu,ns,af,pr,ma,fr,mx,u)=some (yaT (eP (11,w,b,y,i,bo,tg,l,q,d,r,g,nu,ns,af,pr,ma,fr,mx,u)),()):=by
 have hy:y.size<n:=he.y
 have h1:=ycV y
 have h2:=ydH i
 rw[eP_11]at h ⊢
 try simp only[List.length_append]at h
 rw[yal.e0]
 try dsimp only
 rw[pText hn (by omega),yab]
 try dsimp only
 rw[pNum hn hr.i,yab]
 try dsimp only
 rw[yah,yah,yar (by omega),← yaE]
 simp only[yal.e1,yal.e2,yaJ,Int.reduceBEq,bIf_t,bIf_f]
 try dsimp only
 rw[pLock (l:=l) hn hr.l (by omega),yab]
 try dsimp only
 rw[yah,yah,yar (by first | omega | (simp only[List.length_append];omega) | (simp only[List.length_append,yah];omega)),← yaE]
 try dsimp only
 rw[pFlag,yab]
 try dsimp only
 rw[yah,yah,yar (by first | omega | (simp only[List.length_append];omega) | (simp only[List.length_append,yah];omega)),← yaE]
 try dsimp only
 try simp only[List.append_assoc]
theorem rf_12 {n:Nat}(hn:300≤n)(hn2:n≤536870912)(he:QB n (12,w,b,y,i,bo,tg,l,q,d,r,g,nu,ns,af,pr,ma,fr,mx,u))(hr:QR (12,w,b,y,i,bo,tg,l,q,d,r,g,nu,ns,af,pr,ma,fr,mx,u))(h:(eP (12,w,b,y,i,bo,tg,l,q,d,r,g,nu,ns,af,pr,ma,fr,mx,u)).length≤7036874417766) :
  yal.f n (12,w,b,y,i,bo,tg,l,q,d,r,g,nu,ns,af,pr,ma,fr,mx,u)=some (yaT (eP (12,w,b,y,i,bo,tg,l,q,d,r,g,nu,ns,af,pr,ma,fr,mx,u)),()):=by
 have hy:y.size<n:=he.y
 have h1:=ycV y
 have h2:=ydH i
 rw[eP_12]at h ⊢
 try simp only[List.length_append]at h
 rw[yal.e0]
 try dsimp only
 rw[pText hn (by omega),yab]
 try dsimp only
 rw[pNum hn hr.i,yab]
 try dsimp only
 rw[yah,yah,yar (by omega),← yaE]
 simp only[yal.e1,yal.e2,yaJ,Int.reduceBEq,bIf_t,bIf_f]
 try dsimp only
 rw[pLock (l:=l) hn hr.l (by omega),yab]
 try dsimp only
 rw[yah,yah,yar (by first | omega | (simp only[List.length_append];omega) | (simp only[List.length_append,yah];omega)),← yaE]
 try dsimp only
 try simp only[List.append_assoc]
theorem rf_13 {n:Nat}(hn:300≤n)(hn2:n≤536870912)(he:QB n (13,w,b,y,i,bo,tg,l,q,d,r,g,nu,ns,af,pr,ma,fr,mx,u))(hr:QR (13,w,b,y,i,bo,tg,l,q,d,r,g,nu,ns,af,pr,ma,fr,mx,u))(h:(eP (13,w,b,y,i,bo,tg,l,q,d,r,g,nu,ns,af,pr,ma,fr,mx,u)).length≤7036874417766) :
  yal.f n (13,w,b,y,i,bo,tg,l,q,d,r,g,nu,ns,af,pr,ma,fr,mx,u)=some (yaT (eP (13,w,b,y,i,bo,tg,l,q,d,r,g,nu,ns,af,pr,ma,fr,mx,u)),()):=by
 have hy:y.size<n:=he.y
 have h1:=ycV y
 have h2:=ydH i
 rw[eP_13]at h ⊢
 try simp only[List.length_append]at h
 rw[yal.e0]
 try dsimp only
 rw[pText hn (by omega),yab]
 try dsimp only
 rw[pNum hn hr.i,yab]
 try dsimp only
 rw[yah,yah,yar (by omega),← yaE]
 simp only[yal.e1,yal.e2,yaJ,Int.reduceBEq,bIf_t,bIf_f]
 try dsimp only
 rw[pTags (l:=tg) hn he.tg hn2 (by omega),yab]
 try dsimp only
 rw[yah,yah,yar (by first | omega | (simp only[List.length_append];omega) | (simp only[List.length_append,yah];omega)),← yaE]
 try dsimp only
 try simp only[List.append_assoc]
theorem rf_14 {n:Nat}(hn:300≤n)(hn2:n≤536870912)(he:QB n (14,w,b,y,i,bo,tg,l,q,d,r,g,nu,ns,af,pr,ma,fr,mx,u))(hr:QR (14,w,b,y,i,bo,tg,l,q,d,r,g,nu,ns,af,pr,ma,fr,mx,u))(h:(eP (14,w,b,y,i,bo,tg,l,q,d,r,g,nu,ns,af,pr,ma,fr,mx,u)).length≤7036874417766) :
  yal.f n (14,w,b,y,i,bo,tg,l,q,d,r,g,nu,ns,af,pr,ma,fr,mx,u)=some (yaT (eP (14,w,b,y,i,bo,tg,l,q,d,r,g,nu,ns,af,pr,ma,fr,mx,u)),()):=by
 have hy:y.size<n:=he.y
 have h1:=ycV y
 have h2:=ydH i
 rw[eP_14]at h ⊢
 try simp only[List.length_append]at h
 rw[yal.e0]
 try dsimp only
 rw[pText hn (by omega),yab]
 try dsimp only
 rw[pNum hn hr.i,yab]
 try dsimp only
 rw[yah,yah,yar (by omega),← yaE]
 simp only[yal.e1,yal.e2,yaJ,Int.reduceBEq,bIf_t,bIf_f]
 try dsimp only
 rw[pText hn (by omega),yab]
 try dsimp only
 rw[pText hn (by omega),yab]
 try dsimp only
 rw[yah,yah,yar (by first | omega | (simp only[List.length_append];omega) | (simp only[List.length_append,yah];omega)),← yaE]
 try dsimp only
 rw[pText hn (by omega),yab]
 try dsimp only
 rw[yah,yah,yar (by first | omega | (simp only[List.length_append];omega) | (simp only[List.length_append,yah];omega)),← yaE]
 try dsimp only
 rw[qNum hn,yab]
 try dsimp only
 rw[yah,yah,yar (by first | omega | (simp only[List.length_append];omega) | (simp only[List.length_append,yah];omega)),← yaE]
 try dsimp only
 try simp only[List.append_assoc]
theorem rf_15 {n:Nat}(hn:300≤n)(hn2:n≤536870912)(he:QB n (15,w,b,y,i,bo,tg,l,q,d,r,g,nu,ns,af,pr,ma,fr,mx,u))(hr:QR (15,w,b,y,i,bo,tg,l,q,d,r,g,nu,ns,af,pr,ma,fr,mx,u))(h:(eP (15,w,b,y,i,bo,tg,l,q,d,r,g,nu,ns,af,pr,ma,fr,mx,u)).length≤7036874417766) :
  yal.f n (15,w,b,y,i,bo,tg,l,q,d,r,g,nu,ns,af,pr,ma,fr,mx,u)=some (yaT (eP (15,w,b,y,i,bo,tg,l,q,d,r,g,nu,ns,af,pr,ma,fr,mx,u)),()):=by
 have hy:y.size<n:=he.y
 have h1:=ycV y
 have h2:=ydH i
 rw[eP_15]at h ⊢
 try simp only[List.length_append]at h
 rw[yal.e0]
 try dsimp only
 rw[pText hn (by omega),yab]
 try dsimp only
 rw[pNum hn hr.i,yab]
 try dsimp only
 rw[yah,yah,yar (by omega),← yaE]
 simp only[yal.e1,yal.e2,yaJ,Int.reduceBEq,bIf_t,bIf_f]
 try dsimp only
 rw[pText hn (by omega),yab]
 try dsimp only
 rw[pText hn (by omega),yab]
 try dsimp only
 rw[yah,yah,yar (by first | omega | (simp only[List.length_append];omega) | (simp only[List.length_append,yah];omega)),← yaE]
 try dsimp only
 rw[pNum hn hr.fi,yab]
 try dsimp only
 rw[yah,yah,yar (by first | omega | (simp only[List.length_append];omega) | (simp only[List.length_append,yah];omega)),← yaE]
 try dsimp only
 rw[qNum hn,yab]
 try dsimp only
 rw[yah,yah,yar (by first | omega | (simp only[List.length_append];omega) | (simp only[List.length_append,yah];omega)),← yaE]
 try dsimp only
 try simp only[List.append_assoc]
theorem rf_16 {n:Nat}(hn:300≤n)(hn2:n≤536870912)(he:QB n (16,w,b,y,i,bo,tg,l,q,d,r,g,nu,ns,af,pr,ma,fr,mx,u))(hr:QR (16,w,b,y,i,bo,tg,l,q,d,r,g,nu,ns,af,pr,ma,fr,mx,u))(h:(eP (16,w,b,y,i,bo,tg,l,q,d,r,g,nu,ns,af,pr,ma,fr,mx,u)).length≤7036874417766) :
  yal.f n (16,w,b,y,i,bo,tg,l,q,d,r,g,nu,ns,af,pr,ma,fr,mx,u)=some (yaT (eP (16,w,b,y,i,bo,tg,l,q,d,r,g,nu,ns,af,pr,ma,fr,mx,u)),()):=by
 have hy:y.size<n:=he.y
 have h1:=ycV y
 have h2:=ydH i
 rw[eP_16]at h ⊢
 try simp only[List.length_append]at h
 rw[yal.e0]
 try dsimp only
 rw[pText hn (by omega),yab]
 try dsimp only
 rw[pNum hn hr.i,yab]
 try dsimp only
 rw[yah,yah,yar (by omega),← yaE]
 simp only[yal.e1,yal.e2,yaJ,Int.reduceBEq,bIf_t,bIf_f]
 try dsimp only
 rw[pTags (l:=tg) hn he.tg hn2 (by omega),yab]
 try dsimp only
 rw[yah,yah,yar (by first | omega | (simp only[List.length_append];omega) | (simp only[List.length_append,yah];omega)),← yaE]
 try dsimp only
 try simp only[List.append_assoc]
theorem rf_17 {n:Nat}(hn:300≤n)(hn2:n≤536870912)(he:QB n (17,w,b,y,i,bo,tg,l,q,d,r,g,nu,ns,af,pr,ma,fr,mx,u))(hr:QR (17,w,b,y,i,bo,tg,l,q,d,r,g,nu,ns,af,pr,ma,fr,mx,u))(h:(eP (17,w,b,y,i,bo,tg,l,q,d,r,g,nu,ns,af,pr,ma,fr,mx,u)).length≤7036874417766) :
  yal.f n (17,w,b,y,i,bo,tg,l,q,d,r,g,nu,ns,af,pr,ma,fr,mx,u)=some (yaT (eP (17,w,b,y,i,bo,tg,l,q,d,r,g,nu,ns,af,pr,ma,fr,mx,u)),()):=by
 have hy:y.size<n:=he.y
 have h1:=ycV y
 have h2:=ydH i
 rw[eP_17]at h ⊢
 try simp only[List.length_append]at h
 rw[yal.e0]
 try dsimp only
 rw[pText hn (by omega),yab]
 try dsimp only
 rw[pNum hn hr.i,yab]
 try dsimp only
 rw[yah,yah,yar (by omega),← yaE]
 simp only[yal.e1,yal.e2,yaJ,Int.reduceBEq,bIf_t,bIf_f]
 try dsimp only
 rw[pNum hn hr.i,yab]
 try dsimp only
 rw[qNum hn,yab]
 try dsimp only
 rw[yah,yah,yar (by first | omega | (simp only[List.length_append];omega) | (simp only[List.length_append,yah];omega)),← yaE]
 try dsimp only
 rw[pText hn (by omega),yab]
 try dsimp only
 rw[yah,yah,yar (by first | omega | (simp only[List.length_append];omega) | (simp only[List.length_append,yah];omega)),← yaE]
 try dsimp only
 try simp only[List.append_assoc]
theorem rf_18 {n:Nat}(hn:300≤n)(hn2:n≤536870912)(he:QB n (18,w,b,y,i,bo,tg,l,q,d,r,g,nu,ns,af,pr,ma,fr,mx,u))(hr:QR (18,w,b,y,i,bo,tg,l,q,d,r,g,nu,ns,af,pr,ma,fr,mx,u))(h:(eP (18,w,b,y,i,bo,tg,l,q,d,r,g,nu,ns,af,pr,ma,fr,mx,u)).length≤7036874417766) :
  yal.f n (18,w,b,y,i,bo,tg,l,q,d,r,g,nu,ns,af,pr,ma,fr,mx,u)=some (yaT (eP (18,w,b,y,i,bo,tg,l,q,d,r,g,nu,ns,af,pr,ma,fr,mx,u)),()):=by
 have hy:y.size<n:=he.y
 have h1:=ycV y
 have h2:=ydH i
 rw[eP_18]at h ⊢
 try simp only[List.length_append]at h
 rw[yal.e0]
 try dsimp only
 rw[pText hn (by omega),yab]
 try dsimp only
 rw[pNum hn hr.i,yab]
 try dsimp only
 rw[yah,yah,yar (by omega),← yaE]
 simp only[yal.e1,yal.e2,yaJ,Int.reduceBEq,bIf_t,bIf_f]
 try dsimp only
 rw[pNum hn hr.i,yab]
 try dsimp only
 rw[qNum hn,yab]
 try dsimp only
 rw[yah,yah,yar (by first | omega | (simp only[List.length_append];omega) | (simp only[List.length_append,yah];omega)),← yaE]
 try dsimp only
 have hlen:ns.length<n:=he.ns
 have:=yeZ (l:=ns) (0:Int) eI 70368744177664 (λm k L=>yal.J3 n m (yaT L,k,(18,w,b,y,i,bo,tg,l,q,d,r,g,nu,ns,af,pr,ma,fr,mx,u),())) (λL=>some (yaT L,()))
  (λm k L hk hL=>by
   have hx:I64 (ns.getD k 0):=hr.ns _ (yc5 (d:=0) hk)
   try dsimp only
   rw[yal.e3,yap]
   try dsimp only
   rw[decide_eq_true (by omega),yaq,yar ⟨by omega,by omega⟩,Int.toNat_natCast,ybp k (by omega)]
   try dsimp only
   rw[pInt hn hx,yab,yah,yah,yar (by omega),← yaE])
  (λm L hL=>by
   try dsimp only
   rw[yal.e3,yap]
   try dsimp only
   rw[decide_eq_false (by omega),yaj,yal.e4]) n 0 _ (by omega) (by omega) (show (eN i++eW ((ns.length:Nat):Int)).length+((ns.drop 0).flatMap eI).length≤70368744177664 by rw[List.drop_zero];simp only[List.length_append];omega)
 try dsimp only at this
 rw[show ((0:Nat):Int)=0 from rfl,List.drop_zero]at this
 rw[this]
 try simp only[List.append_assoc]
theorem rf_19 {n:Nat}(hn:300≤n)(hn2:n≤536870912)(he:QB n (19,w,b,y,i,bo,tg,l,q,d,r,g,nu,ns,af,pr,ma,fr,mx,u))(hr:QR (19,w,b,y,i,bo,tg,l,q,d,r,g,nu,ns,af,pr,ma,fr,mx,u))(h:(eP (19,w,b,y,i,bo,tg,l,q,d,r,g,nu,ns,af,pr,ma,fr,mx,u)).length≤7036874417766) :
  yal.f n (19,w,b,y,i,bo,tg,l,q,d,r,g,nu,ns,af,pr,ma,fr,mx,u)=some (yaT (eP (19,w,b,y,i,bo,tg,l,q,d,r,g,nu,ns,af,pr,ma,fr,mx,u)),()):=by
 have hy:y.size<n:=he.y
 have h1:=ycV y
 have h2:=ydH i
 rw[eP_19]at h ⊢
 try simp only[List.length_append]at h
 rw[yal.e0]
 try dsimp only
 rw[pText hn (by omega),yab]
 try dsimp only
 rw[pNum hn hr.i,yab]
 try dsimp only
 rw[yah,yah,yar (by omega),← yaE]
 simp only[yal.e1,yal.e2,yaJ,Int.reduceBEq,bIf_t,bIf_f]
 try dsimp only
 rw[pNum hn hr.i,yab]
 try dsimp only
 try simp only[List.append_assoc]
theorem rf_20 {n:Nat}(hn:300≤n)(hn2:n≤536870912)(he:QB n (20,w,b,y,i,bo,tg,l,q,d,r,g,nu,ns,af,pr,ma,fr,mx,u))(hr:QR (20,w,b,y,i,bo,tg,l,q,d,r,g,nu,ns,af,pr,ma,fr,mx,u))(h:(eP (20,w,b,y,i,bo,tg,l,q,d,r,g,nu,ns,af,pr,ma,fr,mx,u)).length≤7036874417766) :
  yal.f n (20,w,b,y,i,bo,tg,l,q,d,r,g,nu,ns,af,pr,ma,fr,mx,u)=some (yaT (eP (20,w,b,y,i,bo,tg,l,q,d,r,g,nu,ns,af,pr,ma,fr,mx,u)),()):=by
 have hy:y.size<n:=he.y
 have h1:=ycV y
 have h2:=ydH i
 rw[eP_20]at h ⊢
 try simp only[List.length_append]at h
 rw[yal.e0]
 try dsimp only
 rw[pText hn (by omega),yab]
 try dsimp only
 rw[pNum hn hr.i,yab]
 try dsimp only
 rw[yah,yah,yar (by omega),← yaE]
 simp only[yal.e1,yal.e2,yaJ,Int.reduceBEq,bIf_t,bIf_f]
 try dsimp only
 rw[pText hn (by omega),yab]
 try dsimp only
 rw[yah,yah,yar (by first | omega | (simp only[List.length_append];omega) | (simp only[List.length_append,yah];omega)),← yaE]
 try dsimp only
 rw[pText hn (by omega),yab]
 try dsimp only
 rw[yah,yah,yar (by first | omega | (simp only[List.length_append];omega) | (simp only[List.length_append,yah];omega)),← yaE]
 try dsimp only
 rw[pNum hn hr.fi,yab]
 try dsimp only
 rw[yah,yah,yar (by first | omega | (simp only[List.length_append];omega) | (simp only[List.length_append,yah];omega)),← yaE]
 try dsimp only
 try simp only[List.append_assoc]
theorem rf_21 {n:Nat}(hn:300≤n)(hn2:n≤536870912)(he:QB n (21,w,b,y,i,bo,tg,l,q,d,r,g,nu,ns,af,pr,ma,fr,mx,u))(hr:QR (21,w,b,y,i,bo,tg,l,q,d,r,g,nu,ns,af,pr,ma,fr,mx,u))(h:(eP (21,w,b,y,i,bo,tg,l,q,d,r,g,nu,ns,af,pr,ma,fr,mx,u)).length≤7036874417766) :
  yal.f n (21,w,b,y,i,bo,tg,l,q,d,r,g,nu,ns,af,pr,ma,fr,mx,u)=some (yaT (eP (21,w,b,y,i,bo,tg,l,q,d,r,g,nu,ns,af,pr,ma,fr,mx,u)),()):=by
 have hy:y.size<n:=he.y
 have h1:=ycV y
 have h2:=ydH i
 rw[eP_21]at h ⊢
 try simp only[List.length_append]at h
 rw[yal.e0]
 try dsimp only
 rw[pText hn (by omega),yab]
 try dsimp only
 rw[pNum hn hr.i,yab]
 try dsimp only
 rw[yah,yah,yar (by omega),← yaE]
 simp only[yal.e1,yal.e2,yaJ,Int.reduceBEq,bIf_t,bIf_f]
 try dsimp only
 try (rw[yal.e5];rfl)
 try simp only[List.append_assoc]
theorem rf_22 {n:Nat}(hn:300≤n)(hn2:n≤536870912)(he:QB n (22,w,b,y,i,bo,tg,l,q,d,r,g,nu,ns,af,pr,ma,fr,mx,u))(hr:QR (22,w,b,y,i,bo,tg,l,q,d,r,g,nu,ns,af,pr,ma,fr,mx,u))(h:(eP (22,w,b,y,i,bo,tg,l,q,d,r,g,nu,ns,af,pr,ma,fr,mx,u)).length≤7036874417766) :
  yal.f n (22,w,b,y,i,bo,tg,l,q,d,r,g,nu,ns,af,pr,ma,fr,mx,u)=some (yaT (eP (22,w,b,y,i,bo,tg,l,q,d,r,g,nu,ns,af,pr,ma,fr,mx,u)),()):=by
 have hy:y.size<n:=he.y
 have h1:=ycV y
 have h2:=ydH i
 rw[eP_22]at h ⊢
 try simp only[List.length_append]at h
 rw[yal.e0]
 try dsimp only
 rw[pText hn (by omega),yab]
 try dsimp only
 rw[pNum hn hr.i,yab]
 try dsimp only
 rw[yah,yah,yar (by omega),← yaE]
 simp only[yal.e1,yal.e2,yaJ,Int.reduceBEq,bIf_t,bIf_f]
 try dsimp only
 try (rw[yal.e5];rfl)
 try simp only[List.append_assoc]
end Go.Proofs.YtdlkpmohjhjmfaaGreatDoor
namespace Go.Proofs.YtdlkpmohjhjmfaaGreatDoor
open Go Go.Va Go.Proofs
variable (w:ByteArray) (b:ByteArray) (y:ByteArray) (i:Int) (bo:List Int) (tg:List yaz) (l:yaZ) (q:Bool) (d:yaL) (r:List yau) (g:List yat) (nu:Int) (ns:List Int) (af:ByteArray) (pr:ByteArray) (ma:ByteArray) (fr:ybh) (mx:Int) (u:Unit)
structure SndQ (e:Q):Prop where
 kind:1≤e.1∧e.1≤22
 w:e.2.1.size≤64
 b:(if 21≤e.1 then eqS e.2.2.1 ⟨#[]⟩ else ybB e.2.2.1)=true
 f107:fld (hasQ e.1) 107 (keyB e.2.2.2.1) (eqS e.2.2.2.1 ⟨#[]⟩)=true
 f105:fld (hasQ e.1) 105 (decide (e.2.2.2.2.1≥yeu e.1)) ((e.2.2.2.2.1==0))=true
 f66:fld (hasQ e.1) 66 (decide (((e.2.2.2.2.2.1.length:Nat):Int)≤1024)) ((((e.2.2.2.2.2.1.length:Nat):Int)==0))=true
 f116:fld (hasQ e.1) 116 (tagsB e.2.2.2.2.2.2.1) ((((e.2.2.2.2.2.2.1.length:Nat):Int)==0))=true
 f108:fld (hasQ e.1) 108 ((lockB e.2.2.2.2.2.2.2.1&&lockK e.1 e.2.2.2.2.2.2.2.1)) (eqD yaO e.2.2.2.2.2.2.2.1 lockZ)=true
 f121:fld (hasQ e.1) 121 (true) ((!e.2.2.2.2.2.2.2.2.1))=true
 f100:fld (hasQ e.1) 100 (modeB e.2.2.2.2.2.2.2.2.2.1) (eqD yaA e.2.2.2.2.2.2.2.2.2.1 (0,(0,())))=true
 f114:fld (hasQ e.1) 114 (rulesB e.2.2.2.2.2.2.2.2.2.2.1) ((((e.2.2.2.2.2.2.2.2.2.2.1.length:Nat):Int)==0))=true
 f103:fld (hasQ e.1) 103 (yeY e.2.2.2.2.2.2.2.2.2.2.2.1) ((((e.2.2.2.2.2.2.2.2.2.2.2.1.length:Nat):Int)==0))=true
 f110:fld (hasQ e.1) 110 ((decide (e.2.2.2.2.2.2.2.2.2.2.2.2.1≥1)&&decide (e.2.2.2.2.2.2.2.2.2.2.2.2.1≤10000))) ((e.2.2.2.2.2.2.2.2.2.2.2.2.1==0))=true
 f78:fld (hasQ e.1) 78 (decide (((e.2.2.2.2.2.2.2.2.2.2.2.2.2.1.length:Nat):Int)≤16)) ((((e.2.2.2.2.2.2.2.2.2.2.2.2.2.1.length:Nat):Int)==0))=true
 f97:fld (hasQ e.1) 97 (nameB e.2.2.2.2.2.2.2.2.2.2.2.2.2.2.1) (eqS e.2.2.2.2.2.2.2.2.2.2.2.2.2.2.1 ⟨#[]⟩)=true
 f112:fld (hasQ e.1) 112 (nameB e.2.2.2.2.2.2.2.2.2.2.2.2.2.2.2.1) (eqS e.2.2.2.2.2.2.2.2.2.2.2.2.2.2.2.1 ⟨#[]⟩)=true
 f109:fld (hasQ e.1) 109 (nameB e.2.2.2.2.2.2.2.2.2.2.2.2.2.2.2.2.1) (eqS e.2.2.2.2.2.2.2.2.2.2.2.2.2.2.2.2.1 ⟨#[]⟩)=true
 f102:fld (hasQ e.1) 102 (fromK e.1 e.2.2.2.2.2.2.2.2.2.2.2.2.2.2.2.2.2.1) (eqD ya0 e.2.2.2.2.2.2.2.2.2.2.2.2.2.2.2.2.2.1 spotZ)=true
 f120:fld (hasQ e.1) 120 ((decide (e.2.2.2.2.2.2.2.2.2.2.2.2.2.2.2.2.2.2.1≥1)&&decide (e.2.2.2.2.2.2.2.2.2.2.2.2.2.2.2.2.2.2.1≤100))) ((e.2.2.2.2.2.2.2.2.2.2.2.2.2.2.2.2.2.2.1==0))=true
theorem sndQ_of {e:Q}(h:goodQ e=true):SndQ e:=by
 unfold goodQ at h
 simp only[Bool.and_eq_true]at h
 obtain⟨⟨h1,h2⟩,h3,h4,h5,f107_,f105_,f66_,f116_,f108_,f121_,f100_,f114_,f103_,f110_,f78_,f97_,f112_,f109_,f102_,f120_⟩:=h
 have h3:decide (((e.2.1.size:Nat):Int)>64)=false:=by
  cases hh:decide (((e.2.1.size:Nat):Int)>64)
  ·rfl
  ·rw[hh]at h3;exact nomatch h3
 have h3:=of_decide_eq_false h3
 exact⟨⟨of_decide_eq_true h1,of_decide_eq_true h2⟩,by omega,h5,f107_,f105_,f66_,f116_,f108_,f121_,f100_,f114_,f103_,f110_,f78_,f97_,f112_,f109_,f102_,f120_⟩
theorem ybe {k:Int}{c:Nat}{g z:Bool}(h:fld (hasQ k) c g z=true)(hi:inB (hasQ k) c=true):g=true:=by
 unfold fld at h;rw[if_pos hi]at h;exact h
theorem yfl {k:Int}{c:Nat}{g z:Bool}(h:fld (hasQ k) c g z=true)(hi:inB (hasQ k) c=false):z=true:=by
 unfold fld at h;rw[if_neg (by rw[hi];decide)]at h;exact h
theorem yfs {s:ByteArray}(h:nameB s=true):s.size≤200:=by
 unfold nameB at h
 simp only[Bool.and_eq_true,decide_eq_true_iff]at h;exact h.1
theorem eP_len_1 (h:SndQ (1,w,b,y,i,bo,tg,l,q,d,r,g,nu,ns,af,pr,ma,fr,mx,u)):(eP (1,w,b,y,i,bo,tg,l,q,d,r,g,nu,ns,af,pr,ma,fr,mx,u)).length≤20000:=by
 rw[eP_1]
 have:=ye5 d.1
 have:=ye5 d.2.1
 unfold eDef
 try simp only[List.length_append]
 first | omega | simp
theorem eP_len_2 (h:SndQ (2,w,b,y,i,bo,tg,l,q,d,r,g,nu,ns,af,pr,ma,fr,mx,u)):(eP (2,w,b,y,i,bo,tg,l,q,d,r,g,nu,ns,af,pr,ma,fr,mx,u)).length≤20000:=by
 rw[eP_2]
 try simp only[List.length_append]
 first | omega | simp
theorem eP_len_3 (h:SndQ (3,w,b,y,i,bo,tg,l,q,d,r,g,nu,ns,af,pr,ma,fr,mx,u)):(eP (3,w,b,y,i,bo,tg,l,q,d,r,g,nu,ns,af,pr,ma,fr,mx,u)).length≤20000:=by
 rw[eP_3]
 have:=ye5 d.1
 have:=ye5 d.2.1
 unfold eDef
 try simp only[List.length_append]
 first | omega | simp
theorem eP_len_4 (h:SndQ (4,w,b,y,i,bo,tg,l,q,d,r,g,nu,ns,af,pr,ma,fr,mx,u)):(eP (4,w,b,y,i,bo,tg,l,q,d,r,g,nu,ns,af,pr,ma,fr,mx,u)).length≤20000:=by
 rw[eP_4]
 have k4:rulesB r=true:=ybe h.f114 (show inB (hasQ 4) 114=true by decide +kernel)
 have:=rulesB_len k4
 try simp only[List.length_append]
 first | omega | simp
theorem eP_len_5 (h:SndQ (5,w,b,y,i,bo,tg,l,q,d,r,g,nu,ns,af,pr,ma,fr,mx,u)):(eP (5,w,b,y,i,bo,tg,l,q,d,r,g,nu,ns,af,pr,ma,fr,mx,u)).length≤20000:=by
 rw[eP_5]
 have k5:yeY g=true:=ybe h.f103 (show inB (hasQ 5) 103=true by decide +kernel)
 have:=grantsB_len k5
 try simp only[List.length_append]
 first | omega | simp
theorem eP_len_6 (h:SndQ (6,w,b,y,i,bo,tg,l,q,d,r,g,nu,ns,af,pr,ma,fr,mx,u)):(eP (6,w,b,y,i,bo,tg,l,q,d,r,g,nu,ns,af,pr,ma,fr,mx,u)).length≤20000:=by
 rw[eP_6]
 have k1:y.size≤200:=ydM (ybe h.f107 (show inB (hasQ 6) 107=true by decide +kernel))
 have:=ycV y
 have k2:((bo.length:Nat):Int)≤1024:=of_decide_eq_true (ybe h.f66 (show inB (hasQ 6) 66=true by decide +kernel))
 have:=ycV (yaT bo)
 rw[yah]at this
 have k3:tagsB tg=true:=ybe h.f116 (show inB (hasQ 6) 116=true by decide +kernel)
 have:=eTags_len k3
 have:=eLock_len l
 try simp only[List.length_append]
 first | omega | simp
theorem eP_len_7 (h:SndQ (7,w,b,y,i,bo,tg,l,q,d,r,g,nu,ns,af,pr,ma,fr,mx,u)):(eP (7,w,b,y,i,bo,tg,l,q,d,r,g,nu,ns,af,pr,ma,fr,mx,u)).length≤20000:=by
 rw[eP_7]
 have k1:y.size≤200:=ydM (ybe h.f107 (show inB (hasQ 7) 107=true by decide +kernel))
 have:=ycV y
 have:=ydH i
 try simp only[List.length_append]
 first | omega | simp
theorem eP_len_8 (h:SndQ (8,w,b,y,i,bo,tg,l,q,d,r,g,nu,ns,af,pr,ma,fr,mx,u)):(eP (8,w,b,y,i,bo,tg,l,q,d,r,g,nu,ns,af,pr,ma,fr,mx,u)).length≤20000:=by
 rw[eP_8]
 have k1:y.size≤200:=ydM (ybe h.f107 (show inB (hasQ 8) 107=true by decide +kernel))
 have:=ycV y
 have:=ydH i
 try simp only[List.length_append]
 first | omega | simp
theorem eP_len_9 (h:SndQ (9,w,b,y,i,bo,tg,l,q,d,r,g,nu,ns,af,pr,ma,fr,mx,u)):(eP (9,w,b,y,i,bo,tg,l,q,d,r,g,nu,ns,af,pr,ma,fr,mx,u)).length≤20000:=by
 rw[eP_9]
 have k1:y.size≤200:=ydM (ybe h.f107 (show inB (hasQ 9) 107=true by decide +kernel))
 have:=ycV y
 try simp only[List.length_append]
 first | omega | simp
theorem eP_len_10 (h:SndQ (10,w,b,y,i,bo,tg,l,q,d,r,g,nu,ns,af,pr,ma,fr,mx,u)):(eP (10,w,b,y,i,bo,tg,l,q,d,r,g,nu,ns,af,pr,ma,fr,mx,u)).length≤20000:=by
 rw[eP_10]
 have k1:y.size≤200:=ydM (ybe h.f107 (show inB (hasQ 10) 107=true by decide +kernel))
 have:=ycV y
 have:=ydH i
 have:=eF_len q
 try simp only[List.length_append]
 first | omega | simp
theorem eP_len_11 (h:SndQ (11,w,b,y,i,bo,tg,l,q,d,r,g,nu,ns,af,pr,ma,fr,mx,u)):(eP (11,w,b,y,i,bo,tg,l,q,d,r,g,nu,ns,af,pr,ma,fr,mx,u)).length≤20000:=by
 rw[eP_11]
 have k1:y.size≤200:=ydM (ybe h.f107 (show inB (hasQ 11) 107=true by decide +kernel))
 have:=ycV y
 have:=ydH i
 have:=eLock_len l
 have:=eF_len q
 try simp only[List.length_append]
 first | omega | simp
theorem eP_len_12 (h:SndQ (12,w,b,y,i,bo,tg,l,q,d,r,g,nu,ns,af,pr,ma,fr,mx,u)):(eP (12,w,b,y,i,bo,tg,l,q,d,r,g,nu,ns,af,pr,ma,fr,mx,u)).length≤20000:=by
 rw[eP_12]
 have k1:y.size≤200:=ydM (ybe h.f107 (show inB (hasQ 12) 107=true by decide +kernel))
 have:=ycV y
 have:=ydH i
 have:=eLock_len l
 try simp only[List.length_append]
 first | omega | simp
theorem eP_len_13 (h:SndQ (13,w,b,y,i,bo,tg,l,q,d,r,g,nu,ns,af,pr,ma,fr,mx,u)):(eP (13,w,b,y,i,bo,tg,l,q,d,r,g,nu,ns,af,pr,ma,fr,mx,u)).length≤20000:=by
 rw[eP_13]
 have k1:y.size≤200:=ydM (ybe h.f107 (show inB (hasQ 13) 107=true by decide +kernel))
 have:=ycV y
 have:=ydH i
 have k3:tagsB tg=true:=ybe h.f116 (show inB (hasQ 13) 116=true by decide +kernel)
 have:=eTags_len k3
 try simp only[List.length_append]
 first | omega | simp
theorem eP_len_14 (h:SndQ (14,w,b,y,i,bo,tg,l,q,d,r,g,nu,ns,af,pr,ma,fr,mx,u)):(eP (14,w,b,y,i,bo,tg,l,q,d,r,g,nu,ns,af,pr,ma,fr,mx,u)).length≤20000:=by
 rw[eP_14]
 have k_pr:pr.size≤200:=yfs (ybe h.f112 (show inB (hasQ 14) 112=true by decide +kernel))
 have:=ycV pr
 have k_ma:ma.size≤200:=yfs (ybe h.f109 (show inB (hasQ 14) 109=true by decide +kernel))
 have:=ycV ma
 have k_af:af.size≤200:=yfs (ybe h.f97 (show inB (hasQ 14) 97=true by decide +kernel))
 have:=ycV af
 have:=ye5 mx
 try simp only[List.length_append]
 first | omega | simp
theorem eP_len_15 (h:SndQ (15,w,b,y,i,bo,tg,l,q,d,r,g,nu,ns,af,pr,ma,fr,mx,u)):(eP (15,w,b,y,i,bo,tg,l,q,d,r,g,nu,ns,af,pr,ma,fr,mx,u)).length≤20000:=by
 rw[eP_15]
 have k_pr:pr.size≤200:=yfs (ybe h.f112 (show inB (hasQ 15) 112=true by decide +kernel))
 have:=ycV pr
 have k6:(eqS fr.1 ⟨#[]⟩&&nameB fr.2.1)=true:=ybe h.f102 (show inB (hasQ 15) 102=true by decide +kernel)
 rw[Bool.and_eq_true]at k6
 have:=yfs k6.2
 have:=ycV fr.2.1
 have:=ydH fr.2.2.1
 have:=ye5 mx
 try simp only[List.length_append]
 first | omega | simp
theorem eP_len_16 (h:SndQ (16,w,b,y,i,bo,tg,l,q,d,r,g,nu,ns,af,pr,ma,fr,mx,u)):(eP (16,w,b,y,i,bo,tg,l,q,d,r,g,nu,ns,af,pr,ma,fr,mx,u)).length≤20000:=by
 rw[eP_16]
 have k1:y.size≤200:=ydM (ybe h.f107 (show inB (hasQ 16) 107=true by decide +kernel))
 have:=ycV y
 have k3:tagsB tg=true:=ybe h.f116 (show inB (hasQ 16) 116=true by decide +kernel)
 have:=eTags_len k3
 try simp only[List.length_append]
 first | omega | simp
theorem eP_len_17 (h:SndQ (17,w,b,y,i,bo,tg,l,q,d,r,g,nu,ns,af,pr,ma,fr,mx,u)):(eP (17,w,b,y,i,bo,tg,l,q,d,r,g,nu,ns,af,pr,ma,fr,mx,u)).length≤20000:=by
 rw[eP_17]
 have:=ydH i
 have:=ye5 nu
 have k2:((bo.length:Nat):Int)≤1024:=of_decide_eq_true (ybe h.f66 (show inB (hasQ 17) 66=true by decide +kernel))
 have:=ycV (yaT bo)
 rw[yah]at this
 try simp only[List.length_append]
 first | omega | simp
theorem eP_len_18 (h:SndQ (18,w,b,y,i,bo,tg,l,q,d,r,g,nu,ns,af,pr,ma,fr,mx,u)):(eP (18,w,b,y,i,bo,tg,l,q,d,r,g,nu,ns,af,pr,ma,fr,mx,u)).length≤20000:=by
 rw[eP_18]
 have:=ydH i
 have:=ye5 ((ns.length:Nat):Int)
 have k7:((ns.length:Nat):Int)≤16:=of_decide_eq_true (ybe h.f78 (show inB (hasQ 18) 78=true by decide +kernel))
 have:=flat_len (l:=ns) (f:=eI) (c:=10) (λx _=>eI_len x)
 try simp only[List.length_append]
 first | omega | simp
theorem eP_len_19 (h:SndQ (19,w,b,y,i,bo,tg,l,q,d,r,g,nu,ns,af,pr,ma,fr,mx,u)):(eP (19,w,b,y,i,bo,tg,l,q,d,r,g,nu,ns,af,pr,ma,fr,mx,u)).length≤20000:=by
 rw[eP_19]
 have:=ydH i
 try simp only[List.length_append]
 first | omega | simp
theorem eP_len_20 (h:SndQ (20,w,b,y,i,bo,tg,l,q,d,r,g,nu,ns,af,pr,ma,fr,mx,u)):(eP (20,w,b,y,i,bo,tg,l,q,d,r,g,nu,ns,af,pr,ma,fr,mx,u)).length≤20000:=by
 rw[eP_20]
 have k1:y.size≤200:=ydM (ybe h.f107 (show inB (hasQ 20) 107=true by decide +kernel))
 have:=ycV y
 have k6:(ybB fr.1&&(keyB fr.2.1&&decide (fr.2.2.1≥1)))=true:=ybe h.f102 (show inB (hasQ 20) 102=true by decide +kernel)
 rw[Bool.and_eq_true,Bool.and_eq_true]at k6
 have:=bucketB_len k6.1
 have:=ydM k6.2.1
 have:=ycV fr.1
 have:=ycV fr.2.1
 have:=ydH fr.2.2.1
 try simp only[List.length_append]
 first | omega | simp
theorem eP_len_21 (h:SndQ (21,w,b,y,i,bo,tg,l,q,d,r,g,nu,ns,af,pr,ma,fr,mx,u)):(eP (21,w,b,y,i,bo,tg,l,q,d,r,g,nu,ns,af,pr,ma,fr,mx,u)).length≤20000:=by
 rw[eP_21]
 try simp only[List.length_append]
 first | omega | simp
theorem eP_len_22 (h:SndQ (22,w,b,y,i,bo,tg,l,q,d,r,g,nu,ns,af,pr,ma,fr,mx,u)):(eP (22,w,b,y,i,bo,tg,l,q,d,r,g,nu,ns,af,pr,ma,fr,mx,u)).length≤20000:=by
 rw[eP_22]
 try simp only[List.length_append]
 first | omega | simp
theorem eP_len {e:Q}(hs:SndQ e):(eP e).length≤20000:=by
 have hk:=hs.kind
 obtain⟨k,w,b,y,i,bo,tg,l,q,d,r,g,nu,ns,af,pr,ma,fr,mx,u⟩:=e
 have:k=1∨k=2∨k=3∨k=4∨k=5∨k=6∨k=7∨k=8∨k=9∨k=10∨k=11∨k=12∨k=13∨k=14∨k=15∨k=16∨k=17∨k=18∨k=19∨k=20∨k=21∨k=22:=by
  obtain⟨h1,h2⟩:=hk
  dsimp only at h1 h2
  omega
 rcases this with h | h | h | h | h | h | h | h | h | h | h | h | h | h | h | h | h | h | h | h | h | h<;>subst h
 ·exact eP_len_1 w b y i bo tg l q d r g nu ns af pr ma fr mx u hs
 ·exact eP_len_2 w b y i bo tg l q d r g nu ns af pr ma fr mx u hs
 ·exact eP_len_3 w b y i bo tg l q d r g nu ns af pr ma fr mx u hs
 ·exact eP_len_4 w b y i bo tg l q d r g nu ns af pr ma fr mx u hs
 ·exact eP_len_5 w b y i bo tg l q d r g nu ns af pr ma fr mx u hs
 ·exact eP_len_6 w b y i bo tg l q d r g nu ns af pr ma fr mx u hs
 ·exact eP_len_7 w b y i bo tg l q d r g nu ns af pr ma fr mx u hs
 ·exact eP_len_8 w b y i bo tg l q d r g nu ns af pr ma fr mx u hs
 ·exact eP_len_9 w b y i bo tg l q d r g nu ns af pr ma fr mx u hs
 ·exact eP_len_10 w b y i bo tg l q d r g nu ns af pr ma fr mx u hs
 ·exact eP_len_11 w b y i bo tg l q d r g nu ns af pr ma fr mx u hs
 ·exact eP_len_12 w b y i bo tg l q d r g nu ns af pr ma fr mx u hs
 ·exact eP_len_13 w b y i bo tg l q d r g nu ns af pr ma fr mx u hs
 ·exact eP_len_14 w b y i bo tg l q d r g nu ns af pr ma fr mx u hs
 ·exact eP_len_15 w b y i bo tg l q d r g nu ns af pr ma fr mx u hs
 ·exact eP_len_16 w b y i bo tg l q d r g nu ns af pr ma fr mx u hs
 ·exact eP_len_17 w b y i bo tg l q d r g nu ns af pr ma fr mx u hs
 ·exact eP_len_18 w b y i bo tg l q d r g nu ns af pr ma fr mx u hs
 ·exact eP_len_19 w b y i bo tg l q d r g nu ns af pr ma fr mx u hs
 ·exact eP_len_20 w b y i bo tg l q d r g nu ns af pr ma fr mx u hs
 ·exact eP_len_21 w b y i bo tg l q d r g nu ns af pr ma fr mx u hs
 ·exact eP_len_22 w b y i bo tg l q d r g nu ns af pr ma fr mx u hs
theorem wf {n:Nat}(hn:300≤n)(hn2:n≤536870912)(w0:List Int)(z:Unit){e:Q}(hs:SndQ e)(he:QB n e)(hr:QR e)(hh:w0.length+(eP e).length≤70368744177664):yag.f n (w0,z) e=some ((w0++eP e,()),()):=by
 have hk:=hs.kind
 obtain⟨k,w,b,y,i,bo,tg,l,q,d,r,g,nu,ns,af,pr,ma,fr,mx,u⟩:=e
 have:k=1∨k=2∨k=3∨k=4∨k=5∨k=6∨k=7∨k=8∨k=9∨k=10∨k=11∨k=12∨k=13∨k=14∨k=15∨k=16∨k=17∨k=18∨k=19∨k=20∨k=21∨k=22:=by
  obtain⟨h1,h2⟩:=hk
  dsimp only at h1 h2
  omega
 rcases this with h | h | h | h | h | h | h | h | h | h | h | h | h | h | h | h | h | h | h | h | h | h<;>subst h
 ·exact wf_1 w b y i bo tg l q d r g nu ns af pr ma fr mx u hn hn2 w0 z he hr hh
 ·exact wf_2 w b y i bo tg l q d r g nu ns af pr ma fr mx u hn hn2 w0 z he hr hh
 ·exact wf_3 w b y i bo tg l q d r g nu ns af pr ma fr mx u hn hn2 w0 z he hr hh
 ·exact wf_4 w b y i bo tg l q d r g nu ns af pr ma fr mx u hn hn2 w0 z he hr hh
 ·exact wf_5 w b y i bo tg l q d r g nu ns af pr ma fr mx u hn hn2 w0 z he hr hh
 ·exact wf_6 w b y i bo tg l q d r g nu ns af pr ma fr mx u hn hn2 w0 z he hr hh
 ·exact wf_7 w b y i bo tg l q d r g nu ns af pr ma fr mx u hn hn2 w0 z he hr hh
 ·exact wf_8 w b y i bo tg l q d r g nu ns af pr ma fr mx u hn hn2 w0 z he hr hh
 ·exact wf_9 w b y i bo tg l q d r g nu ns af pr ma fr mx u hn hn2 w0 z he hr hh
 ·exact wf_10 w b y i bo tg l q d r g nu ns af pr ma fr mx u hn hn2 w0 z he hr hh
 ·exact wf_11 w b y i bo tg l q d r g nu ns af pr ma fr mx u hn hn2 w0 z he hr hh
 ·exact wf_12 w b y i bo tg l q d r g nu ns af pr ma fr mx u hn hn2 w0 z he hr hh
 ·exact wf_13 w b y i bo tg l q d r g nu ns af pr ma fr mx u hn hn2 w0 z he hr hh
 ·exact wf_14 w b y i bo tg l q d r g nu ns af pr ma fr mx u hn hn2 w0 z he hr hh
 ·exact wf_15 w b y i bo tg l q d r g nu ns af pr ma fr mx u hn hn2 w0 z he hr hh
 ·exact wf_16 w b y i bo tg l q d r g nu ns af pr ma fr mx u hn hn2 w0 z he hr hh
 ·exact wf_17 w b y i bo tg l q d r g nu ns af pr ma fr mx u hn hn2 w0 z he hr hh
 ·exact wf_18 w b y i bo tg l q d r g nu ns af pr ma fr mx u hn hn2 w0 z he hr hh
 ·exact wf_19 w b y i bo tg l q d r g nu ns af pr ma fr mx u hn hn2 w0 z he hr hh
 ·exact wf_20 w b y i bo tg l q d r g nu ns af pr ma fr mx u hn hn2 w0 z he hr hh
 ·exact wf_21 w b y i bo tg l q d r g nu ns af pr ma fr mx u hn hn2 w0 z he hr hh
 ·exact wf_22 w b y i bo tg l q d r g nu ns af pr ma fr mx u hn hn2 w0 z he hr hh
theorem rf {n:Nat}(hn:300≤n)(hn2:n≤536870912){e:Q}(hs:SndQ e)(he:QB n e)(hr:QR e)(hh:(eP e).length≤7036874417766):yal.f n e=some (yaT (eP e),()):=by
 have hk:=hs.kind
 obtain⟨k,w,b,y,i,bo,tg,l,q,d,r,g,nu,ns,af,pr,ma,fr,mx,u⟩:=e
 have:k=1∨k=2∨k=3∨k=4∨k=5∨k=6∨k=7∨k=8∨k=9∨k=10∨k=11∨k=12∨k=13∨k=14∨k=15∨k=16∨k=17∨k=18∨k=19∨k=20∨k=21∨k=22:=by
  obtain⟨h1,h2⟩:=hk
  dsimp only at h1 h2
  omega
 rcases this with h | h | h | h | h | h | h | h | h | h | h | h | h | h | h | h | h | h | h | h | h | h<;>subst h
 ·exact rf_1 w b y i bo tg l q d r g nu ns af pr ma fr mx u hn hn2 he hr hh
 ·exact rf_2 w b y i bo tg l q d r g nu ns af pr ma fr mx u hn hn2 he hr hh
 ·exact rf_3 w b y i bo tg l q d r g nu ns af pr ma fr mx u hn hn2 he hr hh
 ·exact rf_4 w b y i bo tg l q d r g nu ns af pr ma fr mx u hn hn2 he hr hh
 ·exact rf_5 w b y i bo tg l q d r g nu ns af pr ma fr mx u hn hn2 he hr hh
 ·exact rf_6 w b y i bo tg l q d r g nu ns af pr ma fr mx u hn hn2 he hr hh
 ·exact rf_7 w b y i bo tg l q d r g nu ns af pr ma fr mx u hn hn2 he hr hh
 ·exact rf_8 w b y i bo tg l q d r g nu ns af pr ma fr mx u hn hn2 he hr hh
 ·exact rf_9 w b y i bo tg l q d r g nu ns af pr ma fr mx u hn hn2 he hr hh
 ·exact rf_10 w b y i bo tg l q d r g nu ns af pr ma fr mx u hn hn2 he hr hh
 ·exact rf_11 w b y i bo tg l q d r g nu ns af pr ma fr mx u hn hn2 he hr hh
 ·exact rf_12 w b y i bo tg l q d r g nu ns af pr ma fr mx u hn hn2 he hr hh
 ·exact rf_13 w b y i bo tg l q d r g nu ns af pr ma fr mx u hn hn2 he hr hh
 ·exact rf_14 w b y i bo tg l q d r g nu ns af pr ma fr mx u hn hn2 he hr hh
 ·exact rf_15 w b y i bo tg l q d r g nu ns af pr ma fr mx u hn hn2 he hr hh
 ·exact rf_16 w b y i bo tg l q d r g nu ns af pr ma fr mx u hn hn2 he hr hh
 ·exact rf_17 w b y i bo tg l q d r g nu ns af pr ma fr mx u hn hn2 he hr hh
 ·exact rf_18 w b y i bo tg l q d r g nu ns af pr ma fr mx u hn hn2 he hr hh
 ·exact rf_19 w b y i bo tg l q d r g nu ns af pr ma fr mx u hn hn2 he hr hh
 ·exact rf_20 w b y i bo tg l q d r g nu ns af pr ma fr mx u hn hn2 he hr hh
 ·exact rf_21 w b y i bo tg l q d r g nu ns af pr ma fr mx u hn hn2 he hr hh
 ·exact rf_22 w b y i bo tg l q d r g nu ns af pr ma fr mx u hn hn2 he hr hh
def encQ (e:Q):List Int:=eW e.1++(eT e.2.1++((if 21≤e.1 then [] else eT e.2.2.1)++eP e))
def askS (e:Q):List Int×Int:=if goodQ e then (encQ e,0) else ([],2)
theorem encQ_len {e:Q}(hs:SndQ e):(encQ e).length≤20300:=by
 have h1:=eP_len hs
 have h2:=ye5 e.1
 have h3:=ycV e.2.1
 have h4:=hs.w
 have hb:=hs.b
 unfold encQ
 by_cases h21:21≤e.1
 ·simp only[List.length_append,if_pos h21,List.length_nil];omega
 ·rw[if_neg h21]at hb
  have:=bucketB_len hb
  have:=ycV e.2.2.1
  simp only[List.length_append,if_neg h21];omega
theorem wire_Ask {n:Nat}(hn:300≤n)(hn2:n≤536870912){e:Q}(he:QB n e)(hr:QR e):ycX.f n e=some ((askS e).1,(askS e).2,()):=by
 rw[ycX.e0,acts_Good hn hn2 he,yab]
 unfold askS
 cases hg:goodQ e
 ·rfl
 ·have hs:=sndQ_of hg
  have hk:=hs.kind
  have hl:=encQ_len hs
  unfold encQ at hl
  simp only[List.length_append]at hl
  rw[Bool.not_true,yaj,if_pos rfl,ybW.e0,yeJ.e0,yab,yab]
  try dsimp only
  rw[wW hn [] () (by rw[List.length_nil];omega),yab]
  try dsimp only
  rw[wText hn _ () (by simp only[List.length_append,List.length_nil];omega),yab]
  try dsimp only
  unfold encQ
  have key:∀ L:List Int,L.length+(eP e).length≤70368744→∀ z,ycX.J2 n (e,z,(L,()),())=some (L++eP e,0,()):=by
   intro L hL z
   rw[ycX.e2]
   try dsimp only
   rw[wf hn hn2 L () hs he hr (by omega),yab]
   try dsimp only
   rw[wOut () (by rw[List.length_append];omega),yab]
  by_cases h21:21≤e.1
  ·rw[if_pos h21]at hl ⊢
   have h5:ycX.J1 n (false,e,(((),()),()),([]++eW e.1++eT e.2.1,()),())=some (eW e.1++(eT e.2.1++([]++eP e)),0,()):=by
    rw[ycX.e1,yaj]
    try dsimp only
    rw[key _ (by simp only[List.length_append,List.length_nil];omega)]
    simp only[List.nil_append,List.append_assoc]
   by_cases h0:e.1=21
   ·rw[yap,show (e.1 != 21)=false by rw[h0];rfl,yaj];exact h5
   ·rw[yap,show (e.1 != 21)=true by rw[bne,beq_eq_false_iff_ne.2 h0];rfl,yaq,yap,show (e.1 != 22)=false by rw[show e.1=22 by omega];rfl];exact h5
  ·rw[if_neg h21]at hl ⊢
   rw[yap,show (e.1 != 21)=true by rw[bne,beq_eq_false_iff_ne.2 (by omega)];rfl,yaq,yap,show (e.1 != 22)=true by rw[bne,beq_eq_false_iff_ne.2 (by omega)];rfl,ycX.e1,yaq]
   try dsimp only
   rw[wText hn _ () (by simp only[List.length_append,List.length_nil];omega),yab]
   try dsimp only
   rw[key _ (by simp only[List.length_append,List.length_nil];omega)]
   simp only[List.nil_append,List.append_assoc]
theorem ref26_Ask {n:Nat}(hn:300≤n)(hn2:n≤536870912){e:Q}(he:QB n e)(hr:QR e):yem.f n e=some (yaT (askS e).1,(askS e).2,()):=by
 rw[yem.e0,ref24_Good hn hn2 he,yab]
 unfold askS
 cases hg:goodQ e
 ·rfl
 ·have hs:=sndQ_of hg
  have hl:=encQ_len hs
  unfold encQ at hl
  simp only[List.length_append]at hl
  rw[Bool.not_true,yaj,if_pos rfl,qNum hn,yab,pText hn (by omega),yab]
  try dsimp only
  rw[yah,yah,yar (by omega),← yaE,yap]
  unfold encQ
  have key:∀ L:List Int,L.length+(eP e).length≤70368744→yem.J1 n (yaT L,e,())=some (yaT (L++eP e),0,()):=by
   intro L hL
   rw[yem.e1,rf hn hn2 hs he hr (by omega),yab]
   try dsimp only
   rw[yah,yah,yar (by omega),← yaE]
  by_cases h21:21≤e.1
  ·rw[if_pos h21]at hl ⊢
   rw[decide_eq_false (by omega),yaj,key _ (by simp only[List.length_append];omega)]
   simp only[List.nil_append,List.append_assoc]
  ·rw[if_neg h21]at hl ⊢
   rw[decide_eq_true (by omega),yaq,pText hn (by omega),yab]
   try dsimp only
   rw[yah,yah,yar (by simp only[List.length_append];omega),← yaE,key _ (by simp only[List.length_append];omega)]
   simp only[List.append_assoc]
end Go.Proofs.YtdlkpmohjhjmfaaGreatDoor
namespace Go.Proofs.YtdlkpmohjhjmfaaGreatDoor
open Go Go.Va Go.Proofs
variable (w:ByteArray) (b:ByteArray) (y:ByteArray) (i:Int) (bo:List Int) (tg:List yaz) (l:yaZ) (q:Bool) (d:yaL) (r:List yau) (g:List yat) (nu:Int) (ns:List Int) (af:ByteArray) (pr:ByteArray) (ma:ByteArray) (fr:ybh) (mx:Int) (u:Unit)
theorem spotEq {a b:ybh}(h:eqD ya0 a b=true):a=b:=by
 have h:((a.1==b.1)&&((a.2.1==b.2.1)&&(decide (a.2.2.1=b.2.2.1)&&true)))=true:=h
 simp only[Bool.and_eq_true,ba_beq,decide_eq_true_iff,and_true]at h
 obtain⟨h1,h2,h3⟩:=h
 obtain⟨a1,a2,a3,a4⟩:=a
 obtain⟨b1,b2,b3,b4⟩:=b
 dsimp only at h1 h2 h3
 rw[h1,h2,h3]
theorem not_eq' {q:Bool}(h:(!q)=true):q=false:=by cases q;rfl;exact nomatch h
abbrev hdQ (k:Int)(w b:ByteArray):Q:=(k,w,b,(⟨#[]⟩:ByteArray),0,[],[],lockZ,false,(0,(0,())),[],[],0,[],(⟨#[]⟩:ByteArray),(⟨#[]⟩:ByteArray),(⟨#[]⟩:ByteArray),spotZ,0,())
def bdBody (n:Nat)(l:List Int):Prop:=l.length<n∧BY l
def okBody (l:List Int):Prop:=l.length≤16384∧BY l
def okNums (l:List Int):Prop:=l.length≤16∧∀ x∈l,I64 x
def eNums (l:List Int):List Int:=eW ((l.length:Nat):Int)++l.flatMap eI
def bdQ (n:Nat)(e:Q):Prop:=QB n e∧QR e∧BY e.2.2.2.2.2.1
theorem rBody {n:Nat}(hn:300≤n)(hn2:n≤536870912):Rd n (α:=List Int) (ycN.f n) (λbo=>eT (yaT bo)) okBody (bdBody n) where
 any b e hb:=by
  obtain⟨x,b',e',h1,h2,h3⟩:=(rText hn hn2).any b e hb
  rw[ycN.e0,h1,yab,yap]
  try dsimp only
  cases eqS x ⟨#[]⟩
  ·rw[Bool.not_false,yaq]
   exact⟨_,_,_,rfl,h2,by rw[← size_of];exact h3,λy hy=>ofBytes_range hy⟩
  ·rw[Bool.not_true,yaj]
   exact⟨_,_,_,rfl,h2,by change 0<n;omega,ydZ⟩
 enc x rest hx hb:=by
  rw[ycN.e0,(rText hn hn2).enc _ _ (by rw[yah];exact hx.1) hb,yab,yap]
  try dsimp only
  cases h:eqS (yaT x) ⟨#[]⟩
  ·rw[Bool.not_false,yaq,yen hx.2]
  ·rw[size0,yah,decide_eq_true_iff]at h
   rw[Bool.not_true,yaj,List.eq_nil_of_length_eq_zero h]
theorem rNums {n:Nat}(hn:300≤n)(hn2:n≤536870912):Rd n (α:=List Int) (ybf.f n) eNums okNums okNums where
 any b e hb:=by
  obtain⟨c,b1,e1,h1,hb1,h2,h3⟩:=(rCount hn hn2 (most:=16) (by omega)).any b e hb
  obtain⟨y,rfl⟩:=Int.eq_ofNat_of_zero_le h2
  rw[ybf.e0,h1,yab]
  try dsimp only
  obtain⟨out',b',e',h4,h5,h6,h7⟩:=rd_any (rInt hn hn2) y (λm out k r=>ybf.J1 n m (out,(y:Int),k,(((),()),()),r,())) (λout r=>some (out,r,()))
   (λm out k r x r' hk ho hF=>by
    try dsimp only
    rw[ybf.e1,yap,decide_eq_true (by omega),yaq,hF,yab,yar (by omega),ybp k (by omega)])
   (λm out r ho=>by
    try dsimp only
    rw[ybf.e1,yap,decide_eq_false (by omega),yaj,ybf.e2]) n 0 [] b1 e1 (by omega) (by omega) rfl (by intro x hx;exact nomatch hx) hb1
  try dsimp only at h4
  rw[show ((0:Nat):Int)=0 from rfl]at h4
  rw[h4]
  exact⟨_,_,_,rfl,h5,by omega,h7⟩
 enc l rest hl hb:=by
  unfold eNums at hb ⊢
  rw[List.append_assoc]at hb ⊢
  have hlen:=hl.1
  rw[ybf.e0,(rCount hn hn2 (most:=16) (by omega)).enc _ _ ⟨by omega,by omega⟩ hb,yab]
  try dsimp only
  have h4:=rd_enc (rInt hn hn2) l.length (λm out k r=>ybf.J1 n m (out,((l.length:Nat):Int),k,(((),()),()),r,())) (λout r=>some (out,r,()))
   (λm out k r x r' hk ho hF=>by
    try dsimp only
    rw[ybf.e1,yap,decide_eq_true (by omega),yaq,hF,yab,yar (by omega),ybp k (by omega)])
   (λm out r ho=>by
    try dsimp only
    rw[ybf.e1,yap,decide_eq_false (by omega),yaj,ybf.e2]) rest n l 0 [] (by omega) (by omega) rfl hl.2 (ybM hb)
  try dsimp only at h4
  rw[show ((0:Nat):Int)=0 from rfl]at h4
  rw[h4,List.nil_append]
theorem mkQ {n:Nat}{k:Int}{w b y:ByteArray}{i:Int}{bo:List Int}{tg:List yaz}{l:yaZ}{q:Bool}{d:yaL}{r:List yau}{g:List yat}{nu:Int}{ns:List Int}{af pr ma:ByteArray}{fr:ybh}{mx:Int}{u:Unit}
  (hw:w.size<n) (hb:b.size<n) (hy:y.size<n) (hi:U64 i) (hbo:bdBody n bo) (ht:TsB n tg) (hl:bdLock l) (hr:RusB n r) (hg:GrsB n g) (hns:okNums ns) (haf:af.size<n) (hpr:pr.size<n) (hma:ma.size<n) (hf1:fr.1.size<n) (hf2:fr.2.1.size<n) (hf3:U64 fr.2.2.1) (h3:300≤n) :
  bdQ n (k,w,b,y,i,bo,tg,l,q,d,r,g,nu,ns,af,pr,ma,fr,mx,u):=
 ⟨⟨hw,hb,hy,hi.1,hbo.1,ht,hr,hg,Nat.lt_of_le_of_lt hns.1 (by omega),haf,hpr,hma,hf1,hf2,hf3.1⟩,⟨hi,hl,hf3,hns.2⟩,hbo.2⟩
theorem qJ_any_1 {n:Nat}(hn:300≤n)(hn2:n≤536870912){w b:ByteArray}(hw:w.size<n)(hbk:b.size<n)(b0:List Int)(e0:Int)(hb0:BB n b0) :
  ∃ (x:Q) (b':List Int) (e':Int),yaa.f n (b0,e0,()) (hdQ 1 w b)=some ((b',e',()),x,())∧BB n b'∧bdQ n x:=by
 have h0:0<n:=by omega
 rw[yaa.e0]
 simp only[yaa.e1,yaa.e2,yaa.e3,yas.e0,yaF.e0,yai.e0,yai.e1,yaJ,Int.reduceBEq,bIf_t,bIf_f,yaS,bnd_s]
 obtain⟨x1,b1,e1,h1,hb1,d1⟩:=(rDef hn hn2).any b0 e0 hb0
 rw[h1]
 try simp only[yaS,bnd_s,bIf_t,bIf_f,Int.reduceBEq]
 exact⟨_,_,_,rfl,hb1,mkQ hw hbk h0 U64_0 ⟨h0,ydZ⟩ ⟨h0,by intro t ht;exact nomatch ht⟩ I64_0 ⟨h0,by intro t ht;exact nomatch ht⟩ ⟨h0,by intro t ht;exact nomatch ht⟩ ⟨Nat.zero_le 16,by intro t ht;exact nomatch ht⟩ h0 h0 h0 h0 h0 U64_0 hn⟩
theorem qJ_any_2 {n:Nat}(hn:300≤n)(hn2:n≤536870912){w b:ByteArray}(hw:w.size<n)(hbk:b.size<n)(b0:List Int)(e0:Int)(hb0:BB n b0) :
  ∃ (x:Q) (b':List Int) (e':Int),yaa.f n (b0,e0,()) (hdQ 2 w b)=some ((b',e',()),x,())∧BB n b'∧bdQ n x:=by
 have h0:0<n:=by omega
 rw[yaa.e0]
 simp only[yaa.e1,yaa.e2,yaa.e3,yas.e0,yaF.e0,yai.e0,yai.e1,yaJ,Int.reduceBEq,bIf_t,bIf_f,yaS,bnd_s]
 exact⟨_,_,_,rfl,hb0,mkQ hw hbk h0 U64_0 ⟨h0,ydZ⟩ ⟨h0,by intro t ht;exact nomatch ht⟩ I64_0 ⟨h0,by intro t ht;exact nomatch ht⟩ ⟨h0,by intro t ht;exact nomatch ht⟩ ⟨Nat.zero_le 16,by intro t ht;exact nomatch ht⟩ h0 h0 h0 h0 h0 U64_0 hn⟩
theorem qJ_any_3 {n:Nat}(hn:300≤n)(hn2:n≤536870912){w b:ByteArray}(hw:w.size<n)(hbk:b.size<n)(b0:List Int)(e0:Int)(hb0:BB n b0) :
  ∃ (x:Q) (b':List Int) (e':Int),yaa.f n (b0,e0,()) (hdQ 3 w b)=some ((b',e',()),x,())∧BB n b'∧bdQ n x:=by
 have h0:0<n:=by omega
 rw[yaa.e0]
 simp only[yaa.e1,yaa.e2,yaa.e3,yas.e0,yaF.e0,yai.e0,yai.e1,yaJ,Int.reduceBEq,bIf_t,bIf_f,yaS,bnd_s]
 obtain⟨x1,b1,e1,h1,hb1,d1⟩:=(rDef hn hn2).any b0 e0 hb0
 rw[h1]
 try simp only[yaS,bnd_s,bIf_t,bIf_f,Int.reduceBEq]
 exact⟨_,_,_,rfl,hb1,mkQ hw hbk h0 U64_0 ⟨h0,ydZ⟩ ⟨h0,by intro t ht;exact nomatch ht⟩ I64_0 ⟨h0,by intro t ht;exact nomatch ht⟩ ⟨h0,by intro t ht;exact nomatch ht⟩ ⟨Nat.zero_le 16,by intro t ht;exact nomatch ht⟩ h0 h0 h0 h0 h0 U64_0 hn⟩
theorem qJ_any_4 {n:Nat}(hn:300≤n)(hn2:n≤536870912){w b:ByteArray}(hw:w.size<n)(hbk:b.size<n)(b0:List Int)(e0:Int)(hb0:BB n b0) :
  ∃ (x:Q) (b':List Int) (e':Int),yaa.f n (b0,e0,()) (hdQ 4 w b)=some ((b',e',()),x,())∧BB n b'∧bdQ n x:=by
 have h0:0<n:=by omega
 rw[yaa.e0]
 simp only[yaa.e1,yaa.e2,yaa.e3,yas.e0,yaF.e0,yai.e0,yai.e1,yaJ,Int.reduceBEq,bIf_t,bIf_f,yaS,bnd_s]
 obtain⟨x1,b1,e1,h1,hb1,d1⟩:=(rRules hn hn2).any b0 e0 hb0
 rw[h1]
 try simp only[yaS,bnd_s,bIf_t,bIf_f,Int.reduceBEq]
 exact⟨_,_,_,rfl,hb1,mkQ hw hbk h0 U64_0 ⟨h0,ydZ⟩ ⟨h0,by intro t ht;exact nomatch ht⟩ I64_0 d1 ⟨h0,by intro t ht;exact nomatch ht⟩ ⟨Nat.zero_le 16,by intro t ht;exact nomatch ht⟩ h0 h0 h0 h0 h0 U64_0 hn⟩
theorem qJ_any_5 {n:Nat}(hn:300≤n)(hn2:n≤536870912){w b:ByteArray}(hw:w.size<n)(hbk:b.size<n)(b0:List Int)(e0:Int)(hb0:BB n b0) :
  ∃ (x:Q) (b':List Int) (e':Int),yaa.f n (b0,e0,()) (hdQ 5 w b)=some ((b',e',()),x,())∧BB n b'∧bdQ n x:=by
 have h0:0<n:=by omega
 rw[yaa.e0]
 simp only[yaa.e1,yaa.e2,yaa.e3,yas.e0,yaF.e0,yai.e0,yai.e1,yaJ,Int.reduceBEq,bIf_t,bIf_f,yaS,bnd_s]
 obtain⟨x1,b1,e1,h1,hb1,d1⟩:=(rGrants hn hn2).any b0 e0 hb0
 rw[h1]
 try simp only[yaS,bnd_s,bIf_t,bIf_f,Int.reduceBEq]
 exact⟨_,_,_,rfl,hb1,mkQ hw hbk h0 U64_0 ⟨h0,ydZ⟩ ⟨h0,by intro t ht;exact nomatch ht⟩ I64_0 ⟨h0,by intro t ht;exact nomatch ht⟩ d1 ⟨Nat.zero_le 16,by intro t ht;exact nomatch ht⟩ h0 h0 h0 h0 h0 U64_0 hn⟩
theorem qJ_any_6 {n:Nat}(hn:300≤n)(hn2:n≤536870912){w b:ByteArray}(hw:w.size<n)(hbk:b.size<n)(b0:List Int)(e0:Int)(hb0:BB n b0) :
  ∃ (x:Q) (b':List Int) (e':Int),yaa.f n (b0,e0,()) (hdQ 6 w b)=some ((b',e',()),x,())∧BB n b'∧bdQ n x:=by
 have h0:0<n:=by omega
 rw[yaa.e0]
 simp only[yaa.e1,yaa.e2,yaa.e3,yas.e0,yaF.e0,yai.e0,yai.e1,yaJ,Int.reduceBEq,bIf_t,bIf_f,yaS,bnd_s]
 obtain⟨x1,b1,e1,h1,hb1,d1⟩:=(rText hn hn2).any b0 e0 hb0
 rw[h1]
 try simp only[yaS,bnd_s,bIf_t,bIf_f,Int.reduceBEq]
 obtain⟨x2,b2,e2,h2,hb2,d2⟩:=(rBody hn hn2).any b1 e1 hb1
 rw[h2]
 try simp only[yaS,bnd_s,bIf_t,bIf_f,Int.reduceBEq]
 obtain⟨x3,b3,e3,h3,hb3,d3⟩:=(rTags hn hn2).any b2 e2 hb2
 rw[h3]
 try simp only[yaS,bnd_s,bIf_t,bIf_f,Int.reduceBEq]
 obtain⟨x4,b4,e4,h4,hb4,d4⟩:=(rLock hn hn2).any b3 e3 hb3
 rw[h4]
 try simp only[yaS,bnd_s,bIf_t,bIf_f,Int.reduceBEq]
 exact⟨_,_,_,rfl,hb4,mkQ hw hbk d1 U64_0 d2 d3 d4 ⟨h0,by intro t ht;exact nomatch ht⟩ ⟨h0,by intro t ht;exact nomatch ht⟩ ⟨Nat.zero_le 16,by intro t ht;exact nomatch ht⟩ h0 h0 h0 h0 h0 U64_0 hn⟩
theorem qJ_any_7 {n:Nat}(hn:300≤n)(hn2:n≤536870912){w b:ByteArray}(hw:w.size<n)(hbk:b.size<n)(b0:List Int)(e0:Int)(hb0:BB n b0) :
  ∃ (x:Q) (b':List Int) (e':Int),yaa.f n (b0,e0,()) (hdQ 7 w b)=some ((b',e',()),x,())∧BB n b'∧bdQ n x:=by
 have h0:0<n:=by omega
 rw[yaa.e0]
 simp only[yaa.e1,yaa.e2,yaa.e3,yas.e0,yaF.e0,yai.e0,yai.e1,yaJ,Int.reduceBEq,bIf_t,bIf_f,yaS,bnd_s]
 obtain⟨x1,b1,e1,h1,hb1,d1⟩:=(rText hn hn2).any b0 e0 hb0
 rw[h1]
 try simp only[yaS,bnd_s,bIf_t,bIf_f,Int.reduceBEq]
 obtain⟨x2,b2,e2,h2,hb2,d2⟩:=(rNum hn hn2).any b1 e1 hb1
 rw[h2]
 try simp only[yaS,bnd_s,bIf_t,bIf_f,Int.reduceBEq]
 exact⟨_,_,_,rfl,hb2,mkQ hw hbk d1 d2 ⟨h0,ydZ⟩ ⟨h0,by intro t ht;exact nomatch ht⟩ I64_0 ⟨h0,by intro t ht;exact nomatch ht⟩ ⟨h0,by intro t ht;exact nomatch ht⟩ ⟨Nat.zero_le 16,by intro t ht;exact nomatch ht⟩ h0 h0 h0 h0 h0 U64_0 hn⟩
theorem qJ_any_8 {n:Nat}(hn:300≤n)(hn2:n≤536870912){w b:ByteArray}(hw:w.size<n)(hbk:b.size<n)(b0:List Int)(e0:Int)(hb0:BB n b0) :
  ∃ (x:Q) (b':List Int) (e':Int),yaa.f n (b0,e0,()) (hdQ 8 w b)=some ((b',e',()),x,())∧BB n b'∧bdQ n x:=by
 have h0:0<n:=by omega
 rw[yaa.e0]
 simp only[yaa.e1,yaa.e2,yaa.e3,yas.e0,yaF.e0,yai.e0,yai.e1,yaJ,Int.reduceBEq,bIf_t,bIf_f,yaS,bnd_s]
 obtain⟨x1,b1,e1,h1,hb1,d1⟩:=(rText hn hn2).any b0 e0 hb0
 rw[h1]
 try simp only[yaS,bnd_s,bIf_t,bIf_f,Int.reduceBEq]
 obtain⟨x2,b2,e2,h2,hb2,d2⟩:=(rNum hn hn2).any b1 e1 hb1
 rw[h2]
 try simp only[yaS,bnd_s,bIf_t,bIf_f,Int.reduceBEq]
 exact⟨_,_,_,rfl,hb2,mkQ hw hbk d1 d2 ⟨h0,ydZ⟩ ⟨h0,by intro t ht;exact nomatch ht⟩ I64_0 ⟨h0,by intro t ht;exact nomatch ht⟩ ⟨h0,by intro t ht;exact nomatch ht⟩ ⟨Nat.zero_le 16,by intro t ht;exact nomatch ht⟩ h0 h0 h0 h0 h0 U64_0 hn⟩
theorem qJ_any_9 {n:Nat}(hn:300≤n)(hn2:n≤536870912){w b:ByteArray}(hw:w.size<n)(hbk:b.size<n)(b0:List Int)(e0:Int)(hb0:BB n b0) :
  ∃ (x:Q) (b':List Int) (e':Int),yaa.f n (b0,e0,()) (hdQ 9 w b)=some ((b',e',()),x,())∧BB n b'∧bdQ n x:=by
 have h0:0<n:=by omega
 rw[yaa.e0]
 simp only[yaa.e1,yaa.e2,yaa.e3,yas.e0,yaF.e0,yai.e0,yai.e1,yaJ,Int.reduceBEq,bIf_t,bIf_f,yaS,bnd_s]
 obtain⟨x1,b1,e1,h1,hb1,d1⟩:=(rText hn hn2).any b0 e0 hb0
 rw[h1]
 try simp only[yaS,bnd_s,bIf_t,bIf_f,Int.reduceBEq]
 exact⟨_,_,_,rfl,hb1,mkQ hw hbk d1 U64_0 ⟨h0,ydZ⟩ ⟨h0,by intro t ht;exact nomatch ht⟩ I64_0 ⟨h0,by intro t ht;exact nomatch ht⟩ ⟨h0,by intro t ht;exact nomatch ht⟩ ⟨Nat.zero_le 16,by intro t ht;exact nomatch ht⟩ h0 h0 h0 h0 h0 U64_0 hn⟩
theorem qJ_any_10 {n:Nat}(hn:300≤n)(hn2:n≤536870912){w b:ByteArray}(hw:w.size<n)(hbk:b.size<n)(b0:List Int)(e0:Int)(hb0:BB n b0) :
  ∃ (x:Q) (b':List Int) (e':Int),yaa.f n (b0,e0,()) (hdQ 10 w b)=some ((b',e',()),x,())∧BB n b'∧bdQ n x:=by
 have h0:0<n:=by omega
 rw[yaa.e0]
 simp only[yaa.e1,yaa.e2,yaa.e3,yas.e0,yaF.e0,yai.e0,yai.e1,yaJ,Int.reduceBEq,bIf_t,bIf_f,yaS,bnd_s]
 obtain⟨x1,b1,e1,h1,hb1,d1⟩:=(rText hn hn2).any b0 e0 hb0
 rw[h1]
 try simp only[yaS,bnd_s,bIf_t,bIf_f,Int.reduceBEq]
 obtain⟨x2,b2,e2,h2,hb2,d2⟩:=(rNum hn hn2).any b1 e1 hb1
 rw[h2]
 try simp only[yaS,bnd_s,bIf_t,bIf_f,Int.reduceBEq]
 obtain⟨x3,b3,e3,h3,hb3,d3⟩:=(rFlag hn hn2).any b2 e2 hb2
 rw[h3]
 try simp only[yaS,bnd_s,bIf_t,bIf_f,Int.reduceBEq]
 exact⟨_,_,_,rfl,hb3,mkQ hw hbk d1 d2 ⟨h0,ydZ⟩ ⟨h0,by intro t ht;exact nomatch ht⟩ I64_0 ⟨h0,by intro t ht;exact nomatch ht⟩ ⟨h0,by intro t ht;exact nomatch ht⟩ ⟨Nat.zero_le 16,by intro t ht;exact nomatch ht⟩ h0 h0 h0 h0 h0 U64_0 hn⟩
theorem qJ_any_11 {n:Nat}(hn:300≤n)(hn2:n≤536870912){w b:ByteArray}(hw:w.size<n)(hbk:b.size<n)(b0:List Int)(e0:Int)(hb0:BB n b0) :
  ∃ (x:Q) (b':List Int) (e':Int),yaa.f n (b0,e0,()) (hdQ 11 w b)=some ((b',e',()),x,())∧BB n b'∧bdQ n x:=by
 have h0:0<n:=by omega
 rw[yaa.e0]
 simp only[yaa.e1,yaa.e2,yaa.e3,yas.e0,yaF.e0,yai.e0,yai.e1,yaJ,Int.reduceBEq,bIf_t,bIf_f,yaS,bnd_s]
 obtain⟨x1,b1,e1,h1,hb1,d1⟩:=(rText hn hn2).any b0 e0 hb0
 rw[h1]
 try simp only[yaS,bnd_s,bIf_t,bIf_f,Int.reduceBEq]
 obtain⟨x2,b2,e2,h2,hb2,d2⟩:=(rNum hn hn2).any b1 e1 hb1
 rw[h2]
 try simp only[yaS,bnd_s,bIf_t,bIf_f,Int.reduceBEq]
 obtain⟨x3,b3,e3,h3,hb3,d3⟩:=(rLock hn hn2).any b2 e2 hb2
 rw[h3]
 try simp only[yaS,bnd_s,bIf_t,bIf_f,Int.reduceBEq]
 obtain⟨x4,b4,e4,h4,hb4,d4⟩:=(rFlag hn hn2).any b3 e3 hb3
 rw[h4]
 try simp only[yaS,bnd_s,bIf_t,bIf_f,Int.reduceBEq]
 exact⟨_,_,_,rfl,hb4,mkQ hw hbk d1 d2 ⟨h0,ydZ⟩ ⟨h0,by intro t ht;exact nomatch ht⟩ d3 ⟨h0,by intro t ht;exact nomatch ht⟩ ⟨h0,by intro t ht;exact nomatch ht⟩ ⟨Nat.zero_le 16,by intro t ht;exact nomatch ht⟩ h0 h0 h0 h0 h0 U64_0 hn⟩
theorem qJ_any_12 {n:Nat}(hn:300≤n)(hn2:n≤536870912){w b:ByteArray}(hw:w.size<n)(hbk:b.size<n)(b0:List Int)(e0:Int)(hb0:BB n b0) :
  ∃ (x:Q) (b':List Int) (e':Int),yaa.f n (b0,e0,()) (hdQ 12 w b)=some ((b',e',()),x,())∧BB n b'∧bdQ n x:=by
 have h0:0<n:=by omega
 rw[yaa.e0]
 simp only[yaa.e1,yaa.e2,yaa.e3,yas.e0,yaF.e0,yai.e0,yai.e1,yaJ,Int.reduceBEq,bIf_t,bIf_f,yaS,bnd_s]
 obtain⟨x1,b1,e1,h1,hb1,d1⟩:=(rText hn hn2).any b0 e0 hb0
 rw[h1]
 try simp only[yaS,bnd_s,bIf_t,bIf_f,Int.reduceBEq]
 obtain⟨x2,b2,e2,h2,hb2,d2⟩:=(rNum hn hn2).any b1 e1 hb1
 rw[h2]
 try simp only[yaS,bnd_s,bIf_t,bIf_f,Int.reduceBEq]
 obtain⟨x3,b3,e3,h3,hb3,d3⟩:=(rLock hn hn2).any b2 e2 hb2
 rw[h3]
 try simp only[yaS,bnd_s,bIf_t,bIf_f,Int.reduceBEq]
 exact⟨_,_,_,rfl,hb3,mkQ hw hbk d1 d2 ⟨h0,ydZ⟩ ⟨h0,by intro t ht;exact nomatch ht⟩ d3 ⟨h0,by intro t ht;exact nomatch ht⟩ ⟨h0,by intro t ht;exact nomatch ht⟩ ⟨Nat.zero_le 16,by intro t ht;exact nomatch ht⟩ h0 h0 h0 h0 h0 U64_0 hn⟩
theorem qJ_any_13 {n:Nat}(hn:300≤n)(hn2:n≤536870912){w b:ByteArray}(hw:w.size<n)(hbk:b.size<n)(b0:List Int)(e0:Int)(hb0:BB n b0) :
  ∃ (x:Q) (b':List Int) (e':Int),yaa.f n (b0,e0,()) (hdQ 13 w b)=some ((b',e',()),x,())∧BB n b'∧bdQ n x:=by
 have h0:0<n:=by omega
 rw[yaa.e0]
 simp only[yaa.e1,yaa.e2,yaa.e3,yas.e0,yaF.e0,yai.e0,yai.e1,yaJ,Int.reduceBEq,bIf_t,bIf_f,yaS,bnd_s]
 obtain⟨x1,b1,e1,h1,hb1,d1⟩:=(rText hn hn2).any b0 e0 hb0
 rw[h1]
 try simp only[yaS,bnd_s,bIf_t,bIf_f,Int.reduceBEq]
 obtain⟨x2,b2,e2,h2,hb2,d2⟩:=(rNum hn hn2).any b1 e1 hb1
 rw[h2]
 try simp only[yaS,bnd_s,bIf_t,bIf_f,Int.reduceBEq]
 obtain⟨x3,b3,e3,h3,hb3,d3⟩:=(rTags hn hn2).any b2 e2 hb2
 rw[h3]
 try simp only[yaS,bnd_s,bIf_t,bIf_f,Int.reduceBEq]
 exact⟨_,_,_,rfl,hb3,mkQ hw hbk d1 d2 ⟨h0,ydZ⟩ d3 I64_0 ⟨h0,by intro t ht;exact nomatch ht⟩ ⟨h0,by intro t ht;exact nomatch ht⟩ ⟨Nat.zero_le 16,by intro t ht;exact nomatch ht⟩ h0 h0 h0 h0 h0 U64_0 hn⟩
theorem qJ_any_14 {n:Nat}(hn:300≤n)(hn2:n≤536870912){w b:ByteArray}(hw:w.size<n)(hbk:b.size<n)(b0:List Int)(e0:Int)(hb0:BB n b0) :
  ∃ (x:Q) (b':List Int) (e':Int),yaa.f n (b0,e0,()) (hdQ 14 w b)=some ((b',e',()),x,())∧BB n b'∧bdQ n x:=by
 have h0:0<n:=by omega
 rw[yaa.e0]
 simp only[yaa.e1,yaa.e2,yaa.e3,yas.e0,yaF.e0,yai.e0,yai.e1,yaJ,Int.reduceBEq,bIf_t,bIf_f,yaS,bnd_s]
 obtain⟨x1,b1,e1,h1,hb1,d1⟩:=(rText hn hn2).any b0 e0 hb0
 rw[h1]
 try simp only[yaS,bnd_s,bIf_t,bIf_f,Int.reduceBEq]
 obtain⟨x2,b2,e2,h2,hb2,d2⟩:=(rText hn hn2).any b1 e1 hb1
 rw[h2]
 try simp only[yaS,bnd_s,bIf_t,bIf_f,Int.reduceBEq]
 obtain⟨x3,b3,e3,h3,hb3,d3⟩:=(rText hn hn2).any b2 e2 hb2
 rw[h3]
 try simp only[yaS,bnd_s,bIf_t,bIf_f,Int.reduceBEq]
 obtain⟨x4,b4,e4,h4,hb4,d4⟩:=(rSmall hn hn2).any b3 e3 hb3
 rw[h4]
 try simp only[yaS,bnd_s,bIf_t,bIf_f,Int.reduceBEq]
 exact⟨_,_,_,rfl,hb4,mkQ hw hbk h0 U64_0 ⟨h0,ydZ⟩ ⟨h0,by intro t ht;exact nomatch ht⟩ I64_0 ⟨h0,by intro t ht;exact nomatch ht⟩ ⟨h0,by intro t ht;exact nomatch ht⟩ ⟨Nat.zero_le 16,by intro t ht;exact nomatch ht⟩ d3 d1 d2 h0 h0 U64_0 hn⟩
theorem qJ_any_15 {n:Nat}(hn:300≤n)(hn2:n≤536870912){w b:ByteArray}(hw:w.size<n)(hbk:b.size<n)(b0:List Int)(e0:Int)(hb0:BB n b0) :
  ∃ (x:Q) (b':List Int) (e':Int),yaa.f n (b0,e0,()) (hdQ 15 w b)=some ((b',e',()),x,())∧BB n b'∧bdQ n x:=by
 have h0:0<n:=by omega
 rw[yaa.e0]
 simp only[yaa.e1,yaa.e2,yaa.e3,yas.e0,yaF.e0,yai.e0,yai.e1,yaJ,Int.reduceBEq,bIf_t,bIf_f,yaS,bnd_s]
 obtain⟨x1,b1,e1,h1,hb1,d1⟩:=(rText hn hn2).any b0 e0 hb0
 rw[h1]
 try simp only[yaS,bnd_s,bIf_t,bIf_f,Int.reduceBEq]
 obtain⟨x2,b2,e2,h2,hb2,d2⟩:=(rText hn hn2).any b1 e1 hb1
 rw[h2]
 try simp only[yaS,bnd_s,bIf_t,bIf_f,Int.reduceBEq]
 obtain⟨x3,b3,e3,h3,hb3,d3⟩:=(rNum hn hn2).any b2 e2 hb2
 rw[h3]
 try simp only[yaS,bnd_s,bIf_t,bIf_f,Int.reduceBEq]
 obtain⟨x4,b4,e4,h4,hb4,d4⟩:=(rSmall hn hn2).any b3 e3 hb3
 rw[h4]
 try simp only[yaS,bnd_s,bIf_t,bIf_f,Int.reduceBEq]
 exact⟨_,_,_,rfl,hb4,mkQ hw hbk h0 U64_0 ⟨h0,ydZ⟩ ⟨h0,by intro t ht;exact nomatch ht⟩ I64_0 ⟨h0,by intro t ht;exact nomatch ht⟩ ⟨h0,by intro t ht;exact nomatch ht⟩ ⟨Nat.zero_le 16,by intro t ht;exact nomatch ht⟩ h0 d1 h0 h0 d2 d3 hn⟩
theorem qJ_any_16 {n:Nat}(hn:300≤n)(hn2:n≤536870912){w b:ByteArray}(hw:w.size<n)(hbk:b.size<n)(b0:List Int)(e0:Int)(hb0:BB n b0) :
  ∃ (x:Q) (b':List Int) (e':Int),yaa.f n (b0,e0,()) (hdQ 16 w b)=some ((b',e',()),x,())∧BB n b'∧bdQ n x:=by
 have h0:0<n:=by omega
 rw[yaa.e0]
 simp only[yaa.e1,yaa.e2,yaa.e3,yas.e0,yaF.e0,yai.e0,yai.e1,yaJ,Int.reduceBEq,bIf_t,bIf_f,yaS,bnd_s]
 obtain⟨x1,b1,e1,h1,hb1,d1⟩:=(rText hn hn2).any b0 e0 hb0
 rw[h1]
 try simp only[yaS,bnd_s,bIf_t,bIf_f,Int.reduceBEq]
 obtain⟨x2,b2,e2,h2,hb2,d2⟩:=(rTags hn hn2).any b1 e1 hb1
 rw[h2]
 try simp only[yaS,bnd_s,bIf_t,bIf_f,Int.reduceBEq]
 exact⟨_,_,_,rfl,hb2,mkQ hw hbk d1 U64_0 ⟨h0,ydZ⟩ d2 I64_0 ⟨h0,by intro t ht;exact nomatch ht⟩ ⟨h0,by intro t ht;exact nomatch ht⟩ ⟨Nat.zero_le 16,by intro t ht;exact nomatch ht⟩ h0 h0 h0 h0 h0 U64_0 hn⟩
theorem qJ_any_17 {n:Nat}(hn:300≤n)(hn2:n≤536870912){w b:ByteArray}(hw:w.size<n)(hbk:b.size<n)(b0:List Int)(e0:Int)(hb0:BB n b0) :
  ∃ (x:Q) (b':List Int) (e':Int),yaa.f n (b0,e0,()) (hdQ 17 w b)=some ((b',e',()),x,())∧BB n b'∧bdQ n x:=by
 have h0:0<n:=by omega
 rw[yaa.e0]
 simp only[yaa.e1,yaa.e2,yaa.e3,yas.e0,yaF.e0,yai.e0,yai.e1,yaJ,Int.reduceBEq,bIf_t,bIf_f,yaS,bnd_s]
 obtain⟨x1,b1,e1,h1,hb1,d1⟩:=(rNum hn hn2).any b0 e0 hb0
 rw[h1]
 try simp only[yaS,bnd_s,bIf_t,bIf_f,Int.reduceBEq]
 obtain⟨x2,b2,e2,h2,hb2,d2⟩:=(rSmall hn hn2).any b1 e1 hb1
 rw[h2]
 try simp only[yaS,bnd_s,bIf_t,bIf_f,Int.reduceBEq]
 obtain⟨x3,b3,e3,h3,hb3,d3⟩:=(rBody hn hn2).any b2 e2 hb2
 rw[h3]
 try simp only[yaS,bnd_s,bIf_t,bIf_f,Int.reduceBEq]
 exact⟨_,_,_,rfl,hb3,mkQ hw hbk h0 d1 d3 ⟨h0,by intro t ht;exact nomatch ht⟩ I64_0 ⟨h0,by intro t ht;exact nomatch ht⟩ ⟨h0,by intro t ht;exact nomatch ht⟩ ⟨Nat.zero_le 16,by intro t ht;exact nomatch ht⟩ h0 h0 h0 h0 h0 U64_0 hn⟩
theorem qJ_any_18 {n:Nat}(hn:300≤n)(hn2:n≤536870912){w b:ByteArray}(hw:w.size<n)(hbk:b.size<n)(b0:List Int)(e0:Int)(hb0:BB n b0) :
  ∃ (x:Q) (b':List Int) (e':Int),yaa.f n (b0,e0,()) (hdQ 18 w b)=some ((b',e',()),x,())∧BB n b'∧bdQ n x:=by
 have h0:0<n:=by omega
 rw[yaa.e0]
 simp only[yaa.e1,yaa.e2,yaa.e3,yas.e0,yaF.e0,yai.e0,yai.e1,yaJ,Int.reduceBEq,bIf_t,bIf_f,yaS,bnd_s]
 obtain⟨x1,b1,e1,h1,hb1,d1⟩:=(rNum hn hn2).any b0 e0 hb0
 rw[h1]
 try simp only[yaS,bnd_s,bIf_t,bIf_f,Int.reduceBEq]
 obtain⟨x2,b2,e2,h2,hb2,d2⟩:=(rNums hn hn2).any b1 e1 hb1
 rw[h2]
 try simp only[yaS,bnd_s,bIf_t,bIf_f,Int.reduceBEq]
 exact⟨_,_,_,rfl,hb2,mkQ hw hbk h0 d1 ⟨h0,ydZ⟩ ⟨h0,by intro t ht;exact nomatch ht⟩ I64_0 ⟨h0,by intro t ht;exact nomatch ht⟩ ⟨h0,by intro t ht;exact nomatch ht⟩ d2 h0 h0 h0 h0 h0 U64_0 hn⟩
theorem qJ_any_19 {n:Nat}(hn:300≤n)(hn2:n≤536870912){w b:ByteArray}(hw:w.size<n)(hbk:b.size<n)(b0:List Int)(e0:Int)(hb0:BB n b0) :
  ∃ (x:Q) (b':List Int) (e':Int),yaa.f n (b0,e0,()) (hdQ 19 w b)=some ((b',e',()),x,())∧BB n b'∧bdQ n x:=by
 have h0:0<n:=by omega
 rw[yaa.e0]
 simp only[yaa.e1,yaa.e2,yaa.e3,yas.e0,yaF.e0,yai.e0,yai.e1,yaJ,Int.reduceBEq,bIf_t,bIf_f,yaS,bnd_s]
 obtain⟨x1,b1,e1,h1,hb1,d1⟩:=(rNum hn hn2).any b0 e0 hb0
 rw[h1]
 try simp only[yaS,bnd_s,bIf_t,bIf_f,Int.reduceBEq]
 exact⟨_,_,_,rfl,hb1,mkQ hw hbk h0 d1 ⟨h0,ydZ⟩ ⟨h0,by intro t ht;exact nomatch ht⟩ I64_0 ⟨h0,by intro t ht;exact nomatch ht⟩ ⟨h0,by intro t ht;exact nomatch ht⟩ ⟨Nat.zero_le 16,by intro t ht;exact nomatch ht⟩ h0 h0 h0 h0 h0 U64_0 hn⟩
theorem qJ_any_20 {n:Nat}(hn:300≤n)(hn2:n≤536870912){w b:ByteArray}(hw:w.size<n)(hbk:b.size<n)(b0:List Int)(e0:Int)(hb0:BB n b0) :
  ∃ (x:Q) (b':List Int) (e':Int),yaa.f n (b0,e0,()) (hdQ 20 w b)=some ((b',e',()),x,())∧BB n b'∧bdQ n x:=by
 have h0:0<n:=by omega
 rw[yaa.e0]
 simp only[yaa.e1,yaa.e2,yaa.e3,yas.e0,yaF.e0,yai.e0,yai.e1,yaJ,Int.reduceBEq,bIf_t,bIf_f,yaS,bnd_s]
 obtain⟨x1,b1,e1,h1,hb1,d1⟩:=(rText hn hn2).any b0 e0 hb0
 rw[h1]
 try simp only[yaS,bnd_s,bIf_t,bIf_f,Int.reduceBEq]
 obtain⟨x2,b2,e2,h2,hb2,d2⟩:=(rText hn hn2).any b1 e1 hb1
 rw[h2]
 try simp only[yaS,bnd_s,bIf_t,bIf_f,Int.reduceBEq]
 obtain⟨x3,b3,e3,h3,hb3,d3⟩:=(rText hn hn2).any b2 e2 hb2
 rw[h3]
 try simp only[yaS,bnd_s,bIf_t,bIf_f,Int.reduceBEq]
 obtain⟨x4,b4,e4,h4,hb4,d4⟩:=(rNum hn hn2).any b3 e3 hb3
 rw[h4]
 try simp only[yaS,bnd_s,bIf_t,bIf_f,Int.reduceBEq]
 exact⟨_,_,_,rfl,hb4,mkQ hw hbk d1 U64_0 ⟨h0,ydZ⟩ ⟨h0,by intro t ht;exact nomatch ht⟩ I64_0 ⟨h0,by intro t ht;exact nomatch ht⟩ ⟨h0,by intro t ht;exact nomatch ht⟩ ⟨Nat.zero_le 16,by intro t ht;exact nomatch ht⟩ h0 h0 h0 d2 d3 d4 hn⟩
theorem qJ_any_21 {n:Nat}(hn:300≤n)(hn2:n≤536870912){w b:ByteArray}(hw:w.size<n)(hbk:b.size<n)(b0:List Int)(e0:Int)(hb0:BB n b0) :
  ∃ (x:Q) (b':List Int) (e':Int),yaa.f n (b0,e0,()) (hdQ 21 w b)=some ((b',e',()),x,())∧BB n b'∧bdQ n x:=by
 have h0:0<n:=by omega
 rw[yaa.e0]
 simp only[yaa.e1,yaa.e2,yaa.e3,yas.e0,yaF.e0,yai.e0,yai.e1,yaJ,Int.reduceBEq,bIf_t,bIf_f,yaS,bnd_s]
 exact⟨_,_,_,rfl,hb0,mkQ hw hbk h0 U64_0 ⟨h0,ydZ⟩ ⟨h0,by intro t ht;exact nomatch ht⟩ I64_0 ⟨h0,by intro t ht;exact nomatch ht⟩ ⟨h0,by intro t ht;exact nomatch ht⟩ ⟨Nat.zero_le 16,by intro t ht;exact nomatch ht⟩ h0 h0 h0 h0 h0 U64_0 hn⟩
theorem qJ_any_22 {n:Nat}(hn:300≤n)(hn2:n≤536870912){w b:ByteArray}(hw:w.size<n)(hbk:b.size<n)(b0:List Int)(e0:Int)(hb0:BB n b0) :
  ∃ (x:Q) (b':List Int) (e':Int),yaa.f n (b0,e0,()) (hdQ 22 w b)=some ((b',e',()),x,())∧BB n b'∧bdQ n x:=by
 have h0:0<n:=by omega
 rw[yaa.e0]
 simp only[yaa.e1,yaa.e2,yaa.e3,yas.e0,yaF.e0,yai.e0,yai.e1,yaJ,Int.reduceBEq,bIf_t,bIf_f,yaS,bnd_s]
 exact⟨_,_,_,rfl,hb0,mkQ hw hbk h0 U64_0 ⟨h0,ydZ⟩ ⟨h0,by intro t ht;exact nomatch ht⟩ I64_0 ⟨h0,by intro t ht;exact nomatch ht⟩ ⟨h0,by intro t ht;exact nomatch ht⟩ ⟨Nat.zero_le 16,by intro t ht;exact nomatch ht⟩ h0 h0 h0 h0 h0 U64_0 hn⟩
section
variable {k:Int} {w b y:ByteArray} {i:Int} {bo:List Int} {tg:List yaz} {l:yaZ} {q:Bool} {d:yaL} {r:List yau} {g:List yat} {nu:Int} {ns:List Int} {af pr ma:ByteArray} {fr:ybh} {mx:Int} {u:Unit}
theorem Zzk (hs:SndQ (k,w,b,y,i,bo,tg,l,q,d,r,g,nu,ns,af,pr,ma,fr,mx,u))(h:inB (hasQ k) 107=false):y=(⟨#[]⟩:ByteArray):=yeH (yfl hs.f107 h)
theorem Zzi (hs:SndQ (k,w,b,y,i,bo,tg,l,q,d,r,g,nu,ns,af,pr,ma,fr,mx,u))(h:inB (hasQ k) 105=false):i=0:=beq_iff_eq.1 (yfl hs.f105 h)
theorem ZzB (hs:SndQ (k,w,b,y,i,bo,tg,l,q,d,r,g,nu,ns,af,pr,ma,fr,mx,u))(h:inB (hasQ k) 66=false):bo=[]:=len0 (yfl hs.f66 h)
theorem Zzt (hs:SndQ (k,w,b,y,i,bo,tg,l,q,d,r,g,nu,ns,af,pr,ma,fr,mx,u))(h:inB (hasQ k) 116=false):tg=[]:=len0 (yfl hs.f116 h)
theorem Zzl (hs:SndQ (k,w,b,y,i,bo,tg,l,q,d,r,g,nu,ns,af,pr,ma,fr,mx,u))(h:inB (hasQ k) 108=false):l=lockZ:=lockEq (yfl hs.f108 h)
theorem Zzy (hs:SndQ (k,w,b,y,i,bo,tg,l,q,d,r,g,nu,ns,af,pr,ma,fr,mx,u))(h:inB (hasQ k) 121=false):q=false:=not_eq' (yfl hs.f121 h)
theorem Zzr (hs:SndQ (k,w,b,y,i,bo,tg,l,q,d,r,g,nu,ns,af,pr,ma,fr,mx,u))(h:inB (hasQ k) 114=false):r=[]:=len0 (yfl hs.f114 h)
theorem Zzg (hs:SndQ (k,w,b,y,i,bo,tg,l,q,d,r,g,nu,ns,af,pr,ma,fr,mx,u))(h:inB (hasQ k) 103=false):g=[]:=len0 (yfl hs.f103 h)
theorem Zzn (hs:SndQ (k,w,b,y,i,bo,tg,l,q,d,r,g,nu,ns,af,pr,ma,fr,mx,u))(h:inB (hasQ k) 110=false):nu=0:=beq_iff_eq.1 (yfl hs.f110 h)
theorem ZzN (hs:SndQ (k,w,b,y,i,bo,tg,l,q,d,r,g,nu,ns,af,pr,ma,fr,mx,u))(h:inB (hasQ k) 78=false):ns=[]:=len0 (yfl hs.f78 h)
theorem Zza (hs:SndQ (k,w,b,y,i,bo,tg,l,q,d,r,g,nu,ns,af,pr,ma,fr,mx,u))(h:inB (hasQ k) 97=false):af=(⟨#[]⟩:ByteArray):=yeH (yfl hs.f97 h)
theorem Zzp (hs:SndQ (k,w,b,y,i,bo,tg,l,q,d,r,g,nu,ns,af,pr,ma,fr,mx,u))(h:inB (hasQ k) 112=false):pr=(⟨#[]⟩:ByteArray):=yeH (yfl hs.f112 h)
theorem Zzm (hs:SndQ (k,w,b,y,i,bo,tg,l,q,d,r,g,nu,ns,af,pr,ma,fr,mx,u))(h:inB (hasQ k) 109=false):ma=(⟨#[]⟩:ByteArray):=yeH (yfl hs.f109 h)
theorem Zzf (hs:SndQ (k,w,b,y,i,bo,tg,l,q,d,r,g,nu,ns,af,pr,ma,fr,mx,u))(h:inB (hasQ k) 102=false):fr=spotZ:=spotEq (yfl hs.f102 h)
theorem Zzx (hs:SndQ (k,w,b,y,i,bo,tg,l,q,d,r,g,nu,ns,af,pr,ma,fr,mx,u))(h:inB (hasQ k) 120=false):mx=0:=beq_iff_eq.1 (yfl hs.f120 h)
theorem Zzd (hs:SndQ (k,w,b,y,i,bo,tg,l,q,d,r,g,nu,ns,af,pr,ma,fr,mx,u))(h:inB (hasQ k) 100=false):d=(0,(0,())):=defEq (yfl hs.f100 h)
end
theorem qJ_enc_1 {n:Nat}(hn:300≤n)(hn2:n≤536870912)(hs:SndQ (1,w,b,y,i,bo,tg,l,q,d,r,g,nu,ns,af,pr,ma,fr,mx,u))(hr:QR (1,w,b,y,i,bo,tg,l,q,d,r,g,nu,ns,af,pr,ma,fr,mx,u))(hy:BY bo)(rest:List Int)(hb:BB n (eP (1,w,b,y,i,bo,tg,l,q,d,r,g,nu,ns,af,pr,ma,fr,mx,u)++rest)) :
  yaa.f n (eP (1,w,b,y,i,bo,tg,l,q,d,r,g,nu,ns,af,pr,ma,fr,mx,u)++rest,0,()) (hdQ 1 w b)=some ((rest,0,()),(1,w,b,y,i,bo,tg,l,q,d,r,g,nu,ns,af,pr,ma,fr,mx,u),()):=by
 have zk:=Zzk hs (by decide +kernel)
 have zi:=Zzi hs (by decide +kernel)
 have zB:=ZzB hs (by decide +kernel)
 have zt:=Zzt hs (by decide +kernel)
 have zl:=Zzl hs (by decide +kernel)
 have zy:=Zzy hs (by decide +kernel)
 have gd:=ybe hs.f100 (show inB (hasQ 1) 100=true by decide +kernel)
 have zr:=Zzr hs (by decide +kernel)
 have zg:=Zzg hs (by decide +kernel)
 have zn:=Zzn hs (by decide +kernel)
 have zN:=ZzN hs (by decide +kernel)
 have za:=Zza hs (by decide +kernel)
 have zp:=Zzp hs (by decide +kernel)
 have zm:=Zzm hs (by decide +kernel)
 have zf:=Zzf hs (by decide +kernel)
 have zx:=Zzx hs (by decide +kernel)
 rw[eP_1]at hb ⊢
 try simp only[List.append_assoc]at hb ⊢
 rw[yaa.e0]
 simp only[yaa.e1,yaa.e2,yaa.e3,yas.e0,yaF.e0,yai.e0,yai.e1,yaJ,Int.reduceBEq,bIf_t,bIf_f,yaS,bnd_s]
 rw[(rDef hn hn2).enc _ _ (okDef_of gd) hb]
 try simp only[yaS,bnd_s,bIf_t,bIf_f,Int.reduceBEq]
 rw[zk,zi,zB,zt,zl,zy,zr,zg,zn,zN,za,zp,zm,zf,zx]
theorem qJ_enc_2 {n:Nat}(hn:300≤n)(hn2:n≤536870912)(hs:SndQ (2,w,b,y,i,bo,tg,l,q,d,r,g,nu,ns,af,pr,ma,fr,mx,u))(hr:QR (2,w,b,y,i,bo,tg,l,q,d,r,g,nu,ns,af,pr,ma,fr,mx,u))(hy:BY bo)(rest:List Int)(hb:BB n (eP (2,w,b,y,i,bo,tg,l,q,d,r,g,nu,ns,af,pr,ma,fr,mx,u)++rest)) :
  yaa.f n (eP (2,w,b,y,i,bo,tg,l,q,d,r,g,nu,ns,af,pr,ma,fr,mx,u)++rest,0,()) (hdQ 2 w b)=some ((rest,0,()),(2,w,b,y,i,bo,tg,l,q,d,r,g,nu,ns,af,pr,ma,fr,mx,u),()):=by
 have zk:=Zzk hs (by decide +kernel)
 have zi:=Zzi hs (by decide +kernel)
 have zB:=ZzB hs (by decide +kernel)
 have zt:=Zzt hs (by decide +kernel)
 have zl:=Zzl hs (by decide +kernel)
 have zy:=Zzy hs (by decide +kernel)
 have zd:=Zzd hs (by decide +kernel)
 have zr:=Zzr hs (by decide +kernel)
 have zg:=Zzg hs (by decide +kernel)
 have zn:=Zzn hs (by decide +kernel)
 have zN:=ZzN hs (by decide +kernel)
 have za:=Zza hs (by decide +kernel)
 have zp:=Zzp hs (by decide +kernel)
 have zm:=Zzm hs (by decide +kernel)
 have zf:=Zzf hs (by decide +kernel)
 have zx:=Zzx hs (by decide +kernel)
 rw[eP_2]at hb ⊢
 try simp only[List.append_assoc]at hb ⊢
 rw[yaa.e0]
 simp only[yaa.e1,yaa.e2,yaa.e3,yas.e0,yaF.e0,yai.e0,yai.e1,yaJ,Int.reduceBEq,bIf_t,bIf_f,yaS,bnd_s]
 rw[zk,zi,zB,zt,zl,zy,zd,zr,zg,zn,zN,za,zp,zm,zf,zx]
 try rfl
theorem qJ_enc_3 {n:Nat}(hn:300≤n)(hn2:n≤536870912)(hs:SndQ (3,w,b,y,i,bo,tg,l,q,d,r,g,nu,ns,af,pr,ma,fr,mx,u))(hr:QR (3,w,b,y,i,bo,tg,l,q,d,r,g,nu,ns,af,pr,ma,fr,mx,u))(hy:BY bo)(rest:List Int)(hb:BB n (eP (3,w,b,y,i,bo,tg,l,q,d,r,g,nu,ns,af,pr,ma,fr,mx,u)++rest)) :
  yaa.f n (eP (3,w,b,y,i,bo,tg,l,q,d,r,g,nu,ns,af,pr,ma,fr,mx,u)++rest,0,()) (hdQ 3 w b)=some ((rest,0,()),(3,w,b,y,i,bo,tg,l,q,d,r,g,nu,ns,af,pr,ma,fr,mx,u),()):=by
 have zk:=Zzk hs (by decide +kernel)
 have zi:=Zzi hs (by decide +kernel)
 have zB:=ZzB hs (by decide +kernel)
 have zt:=Zzt hs (by decide +kernel)
 have zl:=Zzl hs (by decide +kernel)
 have zy:=Zzy hs (by decide +kernel)
 have gd:=ybe hs.f100 (show inB (hasQ 3) 100=true by decide +kernel)
 have zr:=Zzr hs (by decide +kernel)
 have zg:=Zzg hs (by decide +kernel)
 have zn:=Zzn hs (by decide +kernel)
 have zN:=ZzN hs (by decide +kernel)
 have za:=Zza hs (by decide +kernel)
 have zp:=Zzp hs (by decide +kernel)
 have zm:=Zzm hs (by decide +kernel)
 have zf:=Zzf hs (by decide +kernel)
 have zx:=Zzx hs (by decide +kernel)
 rw[eP_3]at hb ⊢
 try simp only[List.append_assoc]at hb ⊢
 rw[yaa.e0]
 simp only[yaa.e1,yaa.e2,yaa.e3,yas.e0,yaF.e0,yai.e0,yai.e1,yaJ,Int.reduceBEq,bIf_t,bIf_f,yaS,bnd_s]
 rw[(rDef hn hn2).enc _ _ (okDef_of gd) hb]
 try simp only[yaS,bnd_s,bIf_t,bIf_f,Int.reduceBEq]
 rw[zk,zi,zB,zt,zl,zy,zr,zg,zn,zN,za,zp,zm,zf,zx]
theorem qJ_enc_4 {n:Nat}(hn:300≤n)(hn2:n≤536870912)(hs:SndQ (4,w,b,y,i,bo,tg,l,q,d,r,g,nu,ns,af,pr,ma,fr,mx,u))(hr:QR (4,w,b,y,i,bo,tg,l,q,d,r,g,nu,ns,af,pr,ma,fr,mx,u))(hy:BY bo)(rest:List Int)(hb:BB n (eP (4,w,b,y,i,bo,tg,l,q,d,r,g,nu,ns,af,pr,ma,fr,mx,u)++rest)) :
  yaa.f n (eP (4,w,b,y,i,bo,tg,l,q,d,r,g,nu,ns,af,pr,ma,fr,mx,u)++rest,0,()) (hdQ 4 w b)=some ((rest,0,()),(4,w,b,y,i,bo,tg,l,q,d,r,g,nu,ns,af,pr,ma,fr,mx,u),()):=by
 have zk:=Zzk hs (by decide +kernel)
 have zi:=Zzi hs (by decide +kernel)
 have zB:=ZzB hs (by decide +kernel)
 have zt:=Zzt hs (by decide +kernel)
 have zl:=Zzl hs (by decide +kernel)
 have zy:=Zzy hs (by decide +kernel)
 have zd:=Zzd hs (by decide +kernel)
 have gr:=ybe hs.f114 (show inB (hasQ 4) 114=true by decide +kernel)
 have zg:=Zzg hs (by decide +kernel)
 have zn:=Zzn hs (by decide +kernel)
 have zN:=ZzN hs (by decide +kernel)
 have za:=Zza hs (by decide +kernel)
 have zp:=Zzp hs (by decide +kernel)
 have zm:=Zzm hs (by decide +kernel)
 have zf:=Zzf hs (by decide +kernel)
 have zx:=Zzx hs (by decide +kernel)
 rw[eP_4]at hb ⊢
 try simp only[List.append_assoc]at hb ⊢
 rw[yaa.e0]
 simp only[yaa.e1,yaa.e2,yaa.e3,yas.e0,yaF.e0,yai.e0,yai.e1,yaJ,Int.reduceBEq,bIf_t,bIf_f,yaS,bnd_s]
 rw[(rRules hn hn2).enc _ _ (okRules_of gr) hb]
 try simp only[yaS,bnd_s,bIf_t,bIf_f,Int.reduceBEq]
 rw[zk,zi,zB,zt,zl,zy,zd,zg,zn,zN,za,zp,zm,zf,zx]
theorem qJ_enc_5 {n:Nat}(hn:300≤n)(hn2:n≤536870912)(hs:SndQ (5,w,b,y,i,bo,tg,l,q,d,r,g,nu,ns,af,pr,ma,fr,mx,u))(hr:QR (5,w,b,y,i,bo,tg,l,q,d,r,g,nu,ns,af,pr,ma,fr,mx,u))(hy:BY bo)(rest:List Int)(hb:BB n (eP (5,w,b,y,i,bo,tg,l,q,d,r,g,nu,ns,af,pr,ma,fr,mx,u)++rest)) :
  yaa.f n (eP (5,w,b,y,i,bo,tg,l,q,d,r,g,nu,ns,af,pr,ma,fr,mx,u)++rest,0,()) (hdQ 5 w b)=some ((rest,0,()),(5,w,b,y,i,bo,tg,l,q,d,r,g,nu,ns,af,pr,ma,fr,mx,u),()):=by
 have zk:=Zzk hs (by decide +kernel)
 have zi:=Zzi hs (by decide +kernel)
 have zB:=ZzB hs (by decide +kernel)
 have zt:=Zzt hs (by decide +kernel)
 have zl:=Zzl hs (by decide +kernel)
 have zy:=Zzy hs (by decide +kernel)
 have zd:=Zzd hs (by decide +kernel)
 have zr:=Zzr hs (by decide +kernel)
 have gg:=ybe hs.f103 (show inB (hasQ 5) 103=true by decide +kernel)
 have zn:=Zzn hs (by decide +kernel)
 have zN:=ZzN hs (by decide +kernel)
 have za:=Zza hs (by decide +kernel)
 have zp:=Zzp hs (by decide +kernel)
 have zm:=Zzm hs (by decide +kernel)
 have zf:=Zzf hs (by decide +kernel)
 have zx:=Zzx hs (by decide +kernel)
 rw[eP_5]at hb ⊢
 try simp only[List.append_assoc]at hb ⊢
 rw[yaa.e0]
 simp only[yaa.e1,yaa.e2,yaa.e3,yas.e0,yaF.e0,yai.e0,yai.e1,yaJ,Int.reduceBEq,bIf_t,bIf_f,yaS,bnd_s]
 rw[(rGrants hn hn2).enc _ _ (okGrants_of gg) hb]
 try simp only[yaS,bnd_s,bIf_t,bIf_f,Int.reduceBEq]
 rw[zk,zi,zB,zt,zl,zy,zd,zr,zn,zN,za,zp,zm,zf,zx]
theorem qJ_enc_6 {n:Nat}(hn:300≤n)(hn2:n≤536870912)(hs:SndQ (6,w,b,y,i,bo,tg,l,q,d,r,g,nu,ns,af,pr,ma,fr,mx,u))(hr:QR (6,w,b,y,i,bo,tg,l,q,d,r,g,nu,ns,af,pr,ma,fr,mx,u))(hy:BY bo)(rest:List Int)(hb:BB n (eP (6,w,b,y,i,bo,tg,l,q,d,r,g,nu,ns,af,pr,ma,fr,mx,u)++rest)) :
  yaa.f n (eP (6,w,b,y,i,bo,tg,l,q,d,r,g,nu,ns,af,pr,ma,fr,mx,u)++rest,0,()) (hdQ 6 w b)=some ((rest,0,()),(6,w,b,y,i,bo,tg,l,q,d,r,g,nu,ns,af,pr,ma,fr,mx,u),()):=by
 have gk:=ybe hs.f107 (show inB (hasQ 6) 107=true by decide +kernel)
 have zi:=Zzi hs (by decide +kernel)
 have gB:=ybe hs.f66 (show inB (hasQ 6) 66=true by decide +kernel)
 have gt:=ybe hs.f116 (show inB (hasQ 6) 116=true by decide +kernel)
 have gl:=ybe hs.f108 (show inB (hasQ 6) 108=true by decide +kernel)
 have zy:=Zzy hs (by decide +kernel)
 have zd:=Zzd hs (by decide +kernel)
 have zr:=Zzr hs (by decide +kernel)
 have zg:=Zzg hs (by decide +kernel)
 have zn:=Zzn hs (by decide +kernel)
 have zN:=ZzN hs (by decide +kernel)
 have za:=Zza hs (by decide +kernel)
 have zp:=Zzp hs (by decide +kernel)
 have zm:=Zzm hs (by decide +kernel)
 have zf:=Zzf hs (by decide +kernel)
 have zx:=Zzx hs (by decide +kernel)
 rw[eP_6]at hb ⊢
 try simp only[List.append_assoc]at hb ⊢
 rw[yaa.e0]
 simp only[yaa.e1,yaa.e2,yaa.e3,yas.e0,yaF.e0,yai.e0,yai.e1,yaJ,Int.reduceBEq,bIf_t,bIf_f,yaS,bnd_s]
 rw[(rText hn hn2).enc _ _ (show y.size≤16384 by have h200:y.size≤200:=ydM gk;omega) hb]
 try simp only[yaS,bnd_s,bIf_t,bIf_f,Int.reduceBEq]
 replace hb:=ybM hb
 rw[(rBody hn hn2).enc bo _ (show okBody bo from ⟨by have h2:((bo.length:Nat):Int)≤1024:=of_decide_eq_true gB;omega,hy⟩) hb]
 try simp only[yaS,bnd_s,bIf_t,bIf_f,Int.reduceBEq]
 replace hb:=ybM hb
 rw[(rTags hn hn2).enc _ _ (okTags_of gt) hb]
 try simp only[yaS,bnd_s,bIf_t,bIf_f,Int.reduceBEq]
 replace hb:=ybM hb
 rw[(rLock hn hn2).enc _ _ (okLock_of (Bool.and_eq_true _ _ ▸ gl).1 hr.l) hb]
 try simp only[yaS,bnd_s,bIf_t,bIf_f,Int.reduceBEq]
 rw[zi,zy,zd,zr,zg,zn,zN,za,zp,zm,zf,zx]
theorem qJ_enc_7 {n:Nat}(hn:300≤n)(hn2:n≤536870912)(hs:SndQ (7,w,b,y,i,bo,tg,l,q,d,r,g,nu,ns,af,pr,ma,fr,mx,u))(hr:QR (7,w,b,y,i,bo,tg,l,q,d,r,g,nu,ns,af,pr,ma,fr,mx,u))(hy:BY bo)(rest:List Int)(hb:BB n (eP (7,w,b,y,i,bo,tg,l,q,d,r,g,nu,ns,af,pr,ma,fr,mx,u)++rest)) :
  yaa.f n (eP (7,w,b,y,i,bo,tg,l,q,d,r,g,nu,ns,af,pr,ma,fr,mx,u)++rest,0,()) (hdQ 7 w b)=some ((rest,0,()),(7,w,b,y,i,bo,tg,l,q,d,r,g,nu,ns,af,pr,ma,fr,mx,u),()):=by
 have gk:=ybe hs.f107 (show inB (hasQ 7) 107=true by decide +kernel)
 have gi:=ybe hs.f105 (show inB (hasQ 7) 105=true by decide +kernel)
 have zB:=ZzB hs (by decide +kernel)
 have zt:=Zzt hs (by decide +kernel)
 have zl:=Zzl hs (by decide +kernel)
 have zy:=Zzy hs (by decide +kernel)
 have zd:=Zzd hs (by decide +kernel)
 have zr:=Zzr hs (by decide +kernel)
 have zg:=Zzg hs (by decide +kernel)
 have zn:=Zzn hs (by decide +kernel)
 have zN:=ZzN hs (by decide +kernel)
 have za:=Zza hs (by decide +kernel)
 have zp:=Zzp hs (by decide +kernel)
 have zm:=Zzm hs (by decide +kernel)
 have zf:=Zzf hs (by decide +kernel)
 have zx:=Zzx hs (by decide +kernel)
 rw[eP_7]at hb ⊢
 try simp only[List.append_assoc]at hb ⊢
 rw[yaa.e0]
 simp only[yaa.e1,yaa.e2,yaa.e3,yas.e0,yaF.e0,yai.e0,yai.e1,yaJ,Int.reduceBEq,bIf_t,bIf_f,yaS,bnd_s]
 rw[(rText hn hn2).enc _ _ (show y.size≤16384 by have h200:y.size≤200:=ydM gk;omega) hb]
 try simp only[yaS,bnd_s,bIf_t,bIf_f,Int.reduceBEq]
 replace hb:=ybM hb
 rw[(rNum hn hn2).enc _ _ hr.i hb]
 try simp only[yaS,bnd_s,bIf_t,bIf_f,Int.reduceBEq]
 rw[zB,zt,zl,zy,zd,zr,zg,zn,zN,za,zp,zm,zf,zx]
theorem qJ_enc_8 {n:Nat}(hn:300≤n)(hn2:n≤536870912)(hs:SndQ (8,w,b,y,i,bo,tg,l,q,d,r,g,nu,ns,af,pr,ma,fr,mx,u))(hr:QR (8,w,b,y,i,bo,tg,l,q,d,r,g,nu,ns,af,pr,ma,fr,mx,u))(hy:BY bo)(rest:List Int)(hb:BB n (eP (8,w,b,y,i,bo,tg,l,q,d,r,g,nu,ns,af,pr,ma,fr,mx,u)++rest)) :
  yaa.f n (eP (8,w,b,y,i,bo,tg,l,q,d,r,g,nu,ns,af,pr,ma,fr,mx,u)++rest,0,()) (hdQ 8 w b)=some ((rest,0,()),(8,w,b,y,i,bo,tg,l,q,d,r,g,nu,ns,af,pr,ma,fr,mx,u),()):=by
 have gk:=ybe hs.f107 (show inB (hasQ 8) 107=true by decide +kernel)
 have gi:=ybe hs.f105 (show inB (hasQ 8) 105=true by decide +kernel)
 have zB:=ZzB hs (by decide +kernel)
 have zt:=Zzt hs (by decide +kernel)
 have zl:=Zzl hs (by decide +kernel)
 have zy:=Zzy hs (by decide +kernel)
 have zd:=Zzd hs (by decide +kernel)
 have zr:=Zzr hs (by decide +kernel)
 have zg:=Zzg hs (by decide +kernel)
 have zn:=Zzn hs (by decide +kernel)
 have zN:=ZzN hs (by decide +kernel)
 have za:=Zza hs (by decide +kernel)
 have zp:=Zzp hs (by decide +kernel)
 have zm:=Zzm hs (by decide +kernel)
 have zf:=Zzf hs (by decide +kernel)
 have zx:=Zzx hs (by decide +kernel)
 rw[eP_8]at hb ⊢
 try simp only[List.append_assoc]at hb ⊢
 rw[yaa.e0]
 simp only[yaa.e1,yaa.e2,yaa.e3,yas.e0,yaF.e0,yai.e0,yai.e1,yaJ,Int.reduceBEq,bIf_t,bIf_f,yaS,bnd_s]
 rw[(rText hn hn2).enc _ _ (show y.size≤16384 by have h200:y.size≤200:=ydM gk;omega) hb]
 try simp only[yaS,bnd_s,bIf_t,bIf_f,Int.reduceBEq]
 replace hb:=ybM hb
 rw[(rNum hn hn2).enc _ _ hr.i hb]
 try simp only[yaS,bnd_s,bIf_t,bIf_f,Int.reduceBEq]
 rw[zB,zt,zl,zy,zd,zr,zg,zn,zN,za,zp,zm,zf,zx]
theorem qJ_enc_9 {n:Nat}(hn:300≤n)(hn2:n≤536870912)(hs:SndQ (9,w,b,y,i,bo,tg,l,q,d,r,g,nu,ns,af,pr,ma,fr,mx,u))(hr:QR (9,w,b,y,i,bo,tg,l,q,d,r,g,nu,ns,af,pr,ma,fr,mx,u))(hy:BY bo)(rest:List Int)(hb:BB n (eP (9,w,b,y,i,bo,tg,l,q,d,r,g,nu,ns,af,pr,ma,fr,mx,u)++rest)) :
  yaa.f n (eP (9,w,b,y,i,bo,tg,l,q,d,r,g,nu,ns,af,pr,ma,fr,mx,u)++rest,0,()) (hdQ 9 w b)=some ((rest,0,()),(9,w,b,y,i,bo,tg,l,q,d,r,g,nu,ns,af,pr,ma,fr,mx,u),()):=by
 have gk:=ybe hs.f107 (show inB (hasQ 9) 107=true by decide +kernel)
 have zi:=Zzi hs (by decide +kernel)
 have zB:=ZzB hs (by decide +kernel)
 have zt:=Zzt hs (by decide +kernel)
 have zl:=Zzl hs (by decide +kernel)
 have zy:=Zzy hs (by decide +kernel)
 have zd:=Zzd hs (by decide +kernel)
 have zr:=Zzr hs (by decide +kernel)
 have zg:=Zzg hs (by decide +kernel)
 have zn:=Zzn hs (by decide +kernel)
 have zN:=ZzN hs (by decide +kernel)
 have za:=Zza hs (by decide +kernel)
 have zp:=Zzp hs (by decide +kernel)
 have zm:=Zzm hs (by decide +kernel)
 have zf:=Zzf hs (by decide +kernel)
 have zx:=Zzx hs (by decide +kernel)
 rw[eP_9]at hb ⊢
 try simp only[List.append_assoc]at hb ⊢
 rw[yaa.e0]
 simp only[yaa.e1,yaa.e2,yaa.e3,yas.e0,yaF.e0,yai.e0,yai.e1,yaJ,Int.reduceBEq,bIf_t,bIf_f,yaS,bnd_s]
 rw[(rText hn hn2).enc _ _ (show y.size≤16384 by have h200:y.size≤200:=ydM gk;omega) hb]
 try simp only[yaS,bnd_s,bIf_t,bIf_f,Int.reduceBEq]
 rw[zi,zB,zt,zl,zy,zd,zr,zg,zn,zN,za,zp,zm,zf,zx]
theorem qJ_enc_10 {n:Nat}(hn:300≤n)(hn2:n≤536870912)(hs:SndQ (10,w,b,y,i,bo,tg,l,q,d,r,g,nu,ns,af,pr,ma,fr,mx,u))(hr:QR (10,w,b,y,i,bo,tg,l,q,d,r,g,nu,ns,af,pr,ma,fr,mx,u))(hy:BY bo)(rest:List Int)(hb:BB n (eP (10,w,b,y,i,bo,tg,l,q,d,r,g,nu,ns,af,pr,ma,fr,mx,u)++rest)) :
  yaa.f n (eP (10,w,b,y,i,bo,tg,l,q,d,r,g,nu,ns,af,pr,ma,fr,mx,u)++rest,0,()) (hdQ 10 w b)=some ((rest,0,()),(10,w,b,y,i,bo,tg,l,q,d,r,g,nu,ns,af,pr,ma,fr,mx,u),()):=by
 have gk:=ybe hs.f107 (show inB (hasQ 10) 107=true by decide +kernel)
 have gi:=ybe hs.f105 (show inB (hasQ 10) 105=true by decide +kernel)
 have zB:=ZzB hs (by decide +kernel)
 have zt:=Zzt hs (by decide +kernel)
 have zl:=Zzl hs (by decide +kernel)
 have gy:=ybe hs.f121 (show inB (hasQ 10) 121=true by decide +kernel)
 have zd:=Zzd hs (by decide +kernel)
 have zr:=Zzr hs (by decide +kernel)
 have zg:=Zzg hs (by decide +kernel)
 have zn:=Zzn hs (by decide +kernel)
 have zN:=ZzN hs (by decide +kernel)
 have za:=Zza hs (by decide +kernel)
 have zp:=Zzp hs (by decide +kernel)
 have zm:=Zzm hs (by decide +kernel)
 have zf:=Zzf hs (by decide +kernel)
 have zx:=Zzx hs (by decide +kernel)
 rw[eP_10]at hb ⊢
 try simp only[List.append_assoc]at hb ⊢
 rw[yaa.e0]
 simp only[yaa.e1,yaa.e2,yaa.e3,yas.e0,yaF.e0,yai.e0,yai.e1,yaJ,Int.reduceBEq,bIf_t,bIf_f,yaS,bnd_s]
 rw[(rText hn hn2).enc _ _ (show y.size≤16384 by have h200:y.size≤200:=ydM gk;omega) hb]
 try simp only[yaS,bnd_s,bIf_t,bIf_f,Int.reduceBEq]
 replace hb:=ybM hb
 rw[(rNum hn hn2).enc _ _ hr.i hb]
 try simp only[yaS,bnd_s,bIf_t,bIf_f,Int.reduceBEq]
 replace hb:=ybM hb
 rw[(rFlag hn hn2).enc _ _ trivial hb]
 try simp only[yaS,bnd_s,bIf_t,bIf_f,Int.reduceBEq]
 rw[zB,zt,zl,zd,zr,zg,zn,zN,za,zp,zm,zf,zx]
theorem qJ_enc_11 {n:Nat}(hn:300≤n)(hn2:n≤536870912)(hs:SndQ (11,w,b,y,i,bo,tg,l,q,d,r,g,nu,ns,af,pr,ma,fr,mx,u))(hr:QR (11,w,b,y,i,bo,tg,l,q,d,r,g,nu,ns,af,pr,ma,fr,mx,u))(hy:BY bo)(rest:List Int)(hb:BB n (eP (11,w,b,y,i,bo,tg,l,q,d,r,g,nu,ns,af,pr,ma,fr,mx,u)++rest)) :
  yaa.f n (eP (11,w,b,y,i,bo,tg,l,q,d,r,g,nu,ns,af,pr,ma,fr,mx,u)++rest,0,()) (hdQ 11 w b)=some ((rest,0,()),(11,w,b,y,i,bo,tg,l,q,d,r,g,nu,ns,af,pr,ma,fr,mx,u),()):=by
 have gk:=ybe hs.f107 (show inB (hasQ 11) 107=true by decide +kernel)
 have gi:=ybe hs.f105 (show inB (hasQ 11) 105=true by decide +kernel)
 have zB:=ZzB hs (by decide +kernel)
 have zt:=Zzt hs (by decide +kernel)
 have gl:=ybe hs.f108 (show inB (hasQ 11) 108=true by decide +kernel)
 have gy:=ybe hs.f121 (show inB (hasQ 11) 121=true by decide +kernel)
 have zd:=Zzd hs (by decide +kernel)
 have zr:=Zzr hs (by decide +kernel)
 have zg:=Zzg hs (by decide +kernel)
 have zn:=Zzn hs (by decide +kernel)
 have zN:=ZzN hs (by decide +kernel)
 have za:=Zza hs (by decide +kernel)
 have zp:=Zzp hs (by decide +kernel)
 have zm:=Zzm hs (by decide +kernel)
 have zf:=Zzf hs (by decide +kernel)
 have zx:=Zzx hs (by decide +kernel)
 rw[eP_11]at hb ⊢
 try simp only[List.append_assoc]at hb ⊢
 rw[yaa.e0]
 simp only[yaa.e1,yaa.e2,yaa.e3,yas.e0,yaF.e0,yai.e0,yai.e1,yaJ,Int.reduceBEq,bIf_t,bIf_f,yaS,bnd_s]
 rw[(rText hn hn2).enc _ _ (show y.size≤16384 by have h200:y.size≤200:=ydM gk;omega) hb]
 try simp only[yaS,bnd_s,bIf_t,bIf_f,Int.reduceBEq]
 replace hb:=ybM hb
 rw[(rNum hn hn2).enc _ _ hr.i hb]
 try simp only[yaS,bnd_s,bIf_t,bIf_f,Int.reduceBEq]
 replace hb:=ybM hb
 rw[(rLock hn hn2).enc _ _ (okLock_of (Bool.and_eq_true _ _ ▸ gl).1 hr.l) hb]
 try simp only[yaS,bnd_s,bIf_t,bIf_f,Int.reduceBEq]
 replace hb:=ybM hb
 rw[(rFlag hn hn2).enc _ _ trivial hb]
 try simp only[yaS,bnd_s,bIf_t,bIf_f,Int.reduceBEq]
 rw[zB,zt,zd,zr,zg,zn,zN,za,zp,zm,zf,zx]
theorem qJ_enc_12 {n:Nat}(hn:300≤n)(hn2:n≤536870912)(hs:SndQ (12,w,b,y,i,bo,tg,l,q,d,r,g,nu,ns,af,pr,ma,fr,mx,u))(hr:QR (12,w,b,y,i,bo,tg,l,q,d,r,g,nu,ns,af,pr,ma,fr,mx,u))(hy:BY bo)(rest:List Int)(hb:BB n (eP (12,w,b,y,i,bo,tg,l,q,d,r,g,nu,ns,af,pr,ma,fr,mx,u)++rest)) :
  yaa.f n (eP (12,w,b,y,i,bo,tg,l,q,d,r,g,nu,ns,af,pr,ma,fr,mx,u)++rest,0,()) (hdQ 12 w b)=some ((rest,0,()),(12,w,b,y,i,bo,tg,l,q,d,r,g,nu,ns,af,pr,ma,fr,mx,u),()):=by
 have gk:=ybe hs.f107 (show inB (hasQ 12) 107=true by decide +kernel)
 have gi:=ybe hs.f105 (show inB (hasQ 12) 105=true by decide +kernel)
 have zB:=ZzB hs (by decide +kernel)
 have zt:=Zzt hs (by decide +kernel)
 have gl:=ybe hs.f108 (show inB (hasQ 12) 108=true by decide +kernel)
 have zy:=Zzy hs (by decide +kernel)
 have zd:=Zzd hs (by decide +kernel)
 have zr:=Zzr hs (by decide +kernel)
 have zg:=Zzg hs (by decide +kernel)
 have zn:=Zzn hs (by decide +kernel)
 have zN:=ZzN hs (by decide +kernel)
 have za:=Zza hs (by decide +kernel)
 have zp:=Zzp hs (by decide +kernel)
 have zm:=Zzm hs (by decide +kernel)
 have zf:=Zzf hs (by decide +kernel)
 have zx:=Zzx hs (by decide +kernel)
 rw[eP_12]at hb ⊢
 try simp only[List.append_assoc]at hb ⊢
 rw[yaa.e0]
 simp only[yaa.e1,yaa.e2,yaa.e3,yas.e0,yaF.e0,yai.e0,yai.e1,yaJ,Int.reduceBEq,bIf_t,bIf_f,yaS,bnd_s]
 rw[(rText hn hn2).enc _ _ (show y.size≤16384 by have h200:y.size≤200:=ydM gk;omega) hb]
 try simp only[yaS,bnd_s,bIf_t,bIf_f,Int.reduceBEq]
 replace hb:=ybM hb
 rw[(rNum hn hn2).enc _ _ hr.i hb]
 try simp only[yaS,bnd_s,bIf_t,bIf_f,Int.reduceBEq]
 replace hb:=ybM hb
 rw[(rLock hn hn2).enc _ _ (okLock_of (Bool.and_eq_true _ _ ▸ gl).1 hr.l) hb]
 try simp only[yaS,bnd_s,bIf_t,bIf_f,Int.reduceBEq]
 rw[zB,zt,zy,zd,zr,zg,zn,zN,za,zp,zm,zf,zx]
theorem qJ_enc_13 {n:Nat}(hn:300≤n)(hn2:n≤536870912)(hs:SndQ (13,w,b,y,i,bo,tg,l,q,d,r,g,nu,ns,af,pr,ma,fr,mx,u))(hr:QR (13,w,b,y,i,bo,tg,l,q,d,r,g,nu,ns,af,pr,ma,fr,mx,u))(hy:BY bo)(rest:List Int)(hb:BB n (eP (13,w,b,y,i,bo,tg,l,q,d,r,g,nu,ns,af,pr,ma,fr,mx,u)++rest)) :
  yaa.f n (eP (13,w,b,y,i,bo,tg,l,q,d,r,g,nu,ns,af,pr,ma,fr,mx,u)++rest,0,()) (hdQ 13 w b)=some ((rest,0,()),(13,w,b,y,i,bo,tg,l,q,d,r,g,nu,ns,af,pr,ma,fr,mx,u),()):=by
 have gk:=ybe hs.f107 (show inB (hasQ 13) 107=true by decide +kernel)
 have gi:=ybe hs.f105 (show inB (hasQ 13) 105=true by decide +kernel)
 have zB:=ZzB hs (by decide +kernel)
 have gt:=ybe hs.f116 (show inB (hasQ 13) 116=true by decide +kernel)
 have zl:=Zzl hs (by decide +kernel)
 have zy:=Zzy hs (by decide +kernel)
 have zd:=Zzd hs (by decide +kernel)
 have zr:=Zzr hs (by decide +kernel)
 have zg:=Zzg hs (by decide +kernel)
 have zn:=Zzn hs (by decide +kernel)
 have zN:=ZzN hs (by decide +kernel)
 have za:=Zza hs (by decide +kernel)
 have zp:=Zzp hs (by decide +kernel)
 have zm:=Zzm hs (by decide +kernel)
 have zf:=Zzf hs (by decide +kernel)
 have zx:=Zzx hs (by decide +kernel)
 rw[eP_13]at hb ⊢
 try simp only[List.append_assoc]at hb ⊢
 rw[yaa.e0]
 simp only[yaa.e1,yaa.e2,yaa.e3,yas.e0,yaF.e0,yai.e0,yai.e1,yaJ,Int.reduceBEq,bIf_t,bIf_f,yaS,bnd_s]
 rw[(rText hn hn2).enc _ _ (show y.size≤16384 by have h200:y.size≤200:=ydM gk;omega) hb]
 try simp only[yaS,bnd_s,bIf_t,bIf_f,Int.reduceBEq]
 replace hb:=ybM hb
 rw[(rNum hn hn2).enc _ _ hr.i hb]
 try simp only[yaS,bnd_s,bIf_t,bIf_f,Int.reduceBEq]
 replace hb:=ybM hb
 rw[(rTags hn hn2).enc _ _ (okTags_of gt) hb]
 try simp only[yaS,bnd_s,bIf_t,bIf_f,Int.reduceBEq]
 rw[zB,zl,zy,zd,zr,zg,zn,zN,za,zp,zm,zf,zx]
theorem qJ_enc_14 {n:Nat}(hn:300≤n)(hn2:n≤536870912)(hs:SndQ (14,w,b,y,i,bo,tg,l,q,d,r,g,nu,ns,af,pr,ma,fr,mx,u))(hr:QR (14,w,b,y,i,bo,tg,l,q,d,r,g,nu,ns,af,pr,ma,fr,mx,u))(hy:BY bo)(rest:List Int)(hb:BB n (eP (14,w,b,y,i,bo,tg,l,q,d,r,g,nu,ns,af,pr,ma,fr,mx,u)++rest)) :
  yaa.f n (eP (14,w,b,y,i,bo,tg,l,q,d,r,g,nu,ns,af,pr,ma,fr,mx,u)++rest,0,()) (hdQ 14 w b)=some ((rest,0,()),(14,w,b,y,i,bo,tg,l,q,d,r,g,nu,ns,af,pr,ma,fr,mx,u),()):=by
 have zk:=Zzk hs (by decide +kernel)
 have zi:=Zzi hs (by decide +kernel)
 have zB:=ZzB hs (by decide +kernel)
 have zt:=Zzt hs (by decide +kernel)
 have zl:=Zzl hs (by decide +kernel)
 have zy:=Zzy hs (by decide +kernel)
 have zd:=Zzd hs (by decide +kernel)
 have zr:=Zzr hs (by decide +kernel)
 have zg:=Zzg hs (by decide +kernel)
 have zn:=Zzn hs (by decide +kernel)
 have zN:=ZzN hs (by decide +kernel)
 have ga:=ybe hs.f97 (show inB (hasQ 14) 97=true by decide +kernel)
 have gp:=ybe hs.f112 (show inB (hasQ 14) 112=true by decide +kernel)
 have gm:=ybe hs.f109 (show inB (hasQ 14) 109=true by decide +kernel)
 have zf:=Zzf hs (by decide +kernel)
 have gx:=ybe hs.f120 (show inB (hasQ 14) 120=true by decide +kernel)
 rw[eP_14]at hb ⊢
 try simp only[List.append_assoc]at hb ⊢
 rw[yaa.e0]
 simp only[yaa.e1,yaa.e2,yaa.e3,yas.e0,yaF.e0,yai.e0,yai.e1,yaJ,Int.reduceBEq,bIf_t,bIf_f,yaS,bnd_s]
 rw[(rText hn hn2).enc _ _ (show pr.size≤16384 by have h2:pr.size≤200:=yfs gp;omega) hb]
 try simp only[yaS,bnd_s,bIf_t,bIf_f,Int.reduceBEq]
 replace hb:=ybM hb
 rw[(rText hn hn2).enc _ _ (show ma.size≤16384 by have h2:ma.size≤200:=yfs gm;omega) hb]
 try simp only[yaS,bnd_s,bIf_t,bIf_f,Int.reduceBEq]
 replace hb:=ybM hb
 rw[(rText hn hn2).enc _ _ (show af.size≤16384 by have h2:af.size≤200:=yfs ga;omega) hb]
 try simp only[yaS,bnd_s,bIf_t,bIf_f,Int.reduceBEq]
 replace hb:=ybM hb
 rw[(rSmall hn hn2).enc _ _ (show 0≤mx∧mx≤1099511627776 by have h2:(decide (mx≥1)&&decide (mx≤100))=true:=gx;rw[Bool.and_eq_true,decide_eq_true_iff,decide_eq_true_iff]at h2;omega) hb]
 try simp only[yaS,bnd_s,bIf_t,bIf_f,Int.reduceBEq]
 rw[zk,zi,zB,zt,zl,zy,zd,zr,zg,zn,zN,zf]
theorem qJ_enc_15 {n:Nat}(hn:300≤n)(hn2:n≤536870912)(hs:SndQ (15,w,b,y,i,bo,tg,l,q,d,r,g,nu,ns,af,pr,ma,fr,mx,u))(hr:QR (15,w,b,y,i,bo,tg,l,q,d,r,g,nu,ns,af,pr,ma,fr,mx,u))(hy:BY bo)(rest:List Int)(hb:BB n (eP (15,w,b,y,i,bo,tg,l,q,d,r,g,nu,ns,af,pr,ma,fr,mx,u)++rest)) :
  yaa.f n (eP (15,w,b,y,i,bo,tg,l,q,d,r,g,nu,ns,af,pr,ma,fr,mx,u)++rest,0,()) (hdQ 15 w b)=some ((rest,0,()),(15,w,b,y,i,bo,tg,l,q,d,r,g,nu,ns,af,pr,ma,fr,mx,u),()):=by
 have zk:=Zzk hs (by decide +kernel)
 have zi:=Zzi hs (by decide +kernel)
 have zB:=ZzB hs (by decide +kernel)
 have zt:=Zzt hs (by decide +kernel)
 have zl:=Zzl hs (by decide +kernel)
 have zy:=Zzy hs (by decide +kernel)
 have zd:=Zzd hs (by decide +kernel)
 have zr:=Zzr hs (by decide +kernel)
 have zg:=Zzg hs (by decide +kernel)
 have zn:=Zzn hs (by decide +kernel)
 have zN:=ZzN hs (by decide +kernel)
 have za:=Zza hs (by decide +kernel)
 have gp:=ybe hs.f112 (show inB (hasQ 15) 112=true by decide +kernel)
 have zm:=Zzm hs (by decide +kernel)
 have gf:=ybe hs.f102 (show inB (hasQ 15) 102=true by decide +kernel)
 have gx:=ybe hs.f120 (show inB (hasQ 15) 120=true by decide +kernel)
 have g6:(eqS fr.1 ⟨#[]⟩&&nameB fr.2.1)=true:=gf
 rw[Bool.and_eq_true]at g6
 have g7:=yfs g6.2
 have g8:=yeH g6.1
 rw[eP_15]at hb ⊢
 try simp only[List.append_assoc]at hb ⊢
 rw[yaa.e0]
 simp only[yaa.e1,yaa.e2,yaa.e3,yas.e0,yaF.e0,yai.e0,yai.e1,yaJ,Int.reduceBEq,bIf_t,bIf_f,yaS,bnd_s]
 rw[(rText hn hn2).enc _ _ (show pr.size≤16384 by have h2:pr.size≤200:=yfs gp;omega) hb]
 try simp only[yaS,bnd_s,bIf_t,bIf_f,Int.reduceBEq]
 replace hb:=ybM hb
 rw[(rText hn hn2).enc _ _ (show fr.2.1.size≤16384 by omega) hb]
 try simp only[yaS,bnd_s,bIf_t,bIf_f,Int.reduceBEq]
 replace hb:=ybM hb
 rw[(rNum hn hn2).enc _ _ hr.fi hb]
 try simp only[yaS,bnd_s,bIf_t,bIf_f,Int.reduceBEq]
 replace hb:=ybM hb
 rw[(rSmall hn hn2).enc _ _ (show 0≤mx∧mx≤1099511627776 by have h2:(decide (mx≥1)&&decide (mx≤100))=true:=gx;rw[Bool.and_eq_true,decide_eq_true_iff,decide_eq_true_iff]at h2;omega) hb]
 try simp only[yaS,bnd_s,bIf_t,bIf_f,Int.reduceBEq]
 rw[zk,zi,zB,zt,zl,zy,zd,zr,zg,zn,zN,za,zm]
 try rw[← g8]
theorem qJ_enc_16 {n:Nat}(hn:300≤n)(hn2:n≤536870912)(hs:SndQ (16,w,b,y,i,bo,tg,l,q,d,r,g,nu,ns,af,pr,ma,fr,mx,u))(hr:QR (16,w,b,y,i,bo,tg,l,q,d,r,g,nu,ns,af,pr,ma,fr,mx,u))(hy:BY bo)(rest:List Int)(hb:BB n (eP (16,w,b,y,i,bo,tg,l,q,d,r,g,nu,ns,af,pr,ma,fr,mx,u)++rest)) :
  yaa.f n (eP (16,w,b,y,i,bo,tg,l,q,d,r,g,nu,ns,af,pr,ma,fr,mx,u)++rest,0,()) (hdQ 16 w b)=some ((rest,0,()),(16,w,b,y,i,bo,tg,l,q,d,r,g,nu,ns,af,pr,ma,fr,mx,u),()):=by
 have gk:=ybe hs.f107 (show inB (hasQ 16) 107=true by decide +kernel)
 have zi:=Zzi hs (by decide +kernel)
 have zB:=ZzB hs (by decide +kernel)
 have gt:=ybe hs.f116 (show inB (hasQ 16) 116=true by decide +kernel)
 have zl:=Zzl hs (by decide +kernel)
 have zy:=Zzy hs (by decide +kernel)
 have zd:=Zzd hs (by decide +kernel)
 have zr:=Zzr hs (by decide +kernel)
 have zg:=Zzg hs (by decide +kernel)
 have zn:=Zzn hs (by decide +kernel)
 have zN:=ZzN hs (by decide +kernel)
 have za:=Zza hs (by decide +kernel)
 have zp:=Zzp hs (by decide +kernel)
 have zm:=Zzm hs (by decide +kernel)
 have zf:=Zzf hs (by decide +kernel)
 have zx:=Zzx hs (by decide +kernel)
 rw[eP_16]at hb ⊢
 try simp only[List.append_assoc]at hb ⊢
 rw[yaa.e0]
 simp only[yaa.e1,yaa.e2,yaa.e3,yas.e0,yaF.e0,yai.e0,yai.e1,yaJ,Int.reduceBEq,bIf_t,bIf_f,yaS,bnd_s]
 rw[(rText hn hn2).enc _ _ (show y.size≤16384 by have h200:y.size≤200:=ydM gk;omega) hb]
 try simp only[yaS,bnd_s,bIf_t,bIf_f,Int.reduceBEq]
 replace hb:=ybM hb
 rw[(rTags hn hn2).enc _ _ (okTags_of gt) hb]
 try simp only[yaS,bnd_s,bIf_t,bIf_f,Int.reduceBEq]
 rw[zi,zB,zl,zy,zd,zr,zg,zn,zN,za,zp,zm,zf,zx]
theorem qJ_enc_17 {n:Nat}(hn:300≤n)(hn2:n≤536870912)(hs:SndQ (17,w,b,y,i,bo,tg,l,q,d,r,g,nu,ns,af,pr,ma,fr,mx,u))(hr:QR (17,w,b,y,i,bo,tg,l,q,d,r,g,nu,ns,af,pr,ma,fr,mx,u))(hy:BY bo)(rest:List Int)(hb:BB n (eP (17,w,b,y,i,bo,tg,l,q,d,r,g,nu,ns,af,pr,ma,fr,mx,u)++rest)) :
  yaa.f n (eP (17,w,b,y,i,bo,tg,l,q,d,r,g,nu,ns,af,pr,ma,fr,mx,u)++rest,0,()) (hdQ 17 w b)=some ((rest,0,()),(17,w,b,y,i,bo,tg,l,q,d,r,g,nu,ns,af,pr,ma,fr,mx,u),()):=by
 have zk:=Zzk hs (by decide +kernel)
 have gi:=ybe hs.f105 (show inB (hasQ 17) 105=true by decide +kernel)
 have gB:=ybe hs.f66 (show inB (hasQ 17) 66=true by decide +kernel)
 have zt:=Zzt hs (by decide +kernel)
 have zl:=Zzl hs (by decide +kernel)
 have zy:=Zzy hs (by decide +kernel)
 have zd:=Zzd hs (by decide +kernel)
 have zr:=Zzr hs (by decide +kernel)
 have zg:=Zzg hs (by decide +kernel)
 have gn:=ybe hs.f110 (show inB (hasQ 17) 110=true by decide +kernel)
 have zN:=ZzN hs (by decide +kernel)
 have za:=Zza hs (by decide +kernel)
 have zp:=Zzp hs (by decide +kernel)
 have zm:=Zzm hs (by decide +kernel)
 have zf:=Zzf hs (by decide +kernel)
 have zx:=Zzx hs (by decide +kernel)
 rw[eP_17]at hb ⊢
 try simp only[List.append_assoc]at hb ⊢
 rw[yaa.e0]
 simp only[yaa.e1,yaa.e2,yaa.e3,yas.e0,yaF.e0,yai.e0,yai.e1,yaJ,Int.reduceBEq,bIf_t,bIf_f,yaS,bnd_s]
 rw[(rNum hn hn2).enc _ _ hr.i hb]
 try simp only[yaS,bnd_s,bIf_t,bIf_f,Int.reduceBEq]
 replace hb:=ybM hb
 rw[(rSmall hn hn2).enc _ _ (show 0≤nu∧nu≤1099511627776 by have h2:(decide (nu≥1)&&decide (nu≤10000))=true:=gn;rw[Bool.and_eq_true,decide_eq_true_iff,decide_eq_true_iff]at h2;omega) hb]
 try simp only[yaS,bnd_s,bIf_t,bIf_f,Int.reduceBEq]
 replace hb:=ybM hb
 rw[(rBody hn hn2).enc bo _ (show okBody bo from ⟨by have h2:((bo.length:Nat):Int)≤1024:=of_decide_eq_true gB;omega,hy⟩) hb]
 try simp only[yaS,bnd_s,bIf_t,bIf_f,Int.reduceBEq]
 rw[zk,zt,zl,zy,zd,zr,zg,zN,za,zp,zm,zf,zx]
theorem qJ_enc_18 {n:Nat}(hn:300≤n)(hn2:n≤536870912)(hs:SndQ (18,w,b,y,i,bo,tg,l,q,d,r,g,nu,ns,af,pr,ma,fr,mx,u))(hr:QR (18,w,b,y,i,bo,tg,l,q,d,r,g,nu,ns,af,pr,ma,fr,mx,u))(hy:BY bo)(rest:List Int)(hb:BB n (eP (18,w,b,y,i,bo,tg,l,q,d,r,g,nu,ns,af,pr,ma,fr,mx,u)++rest)) :
  yaa.f n (eP (18,w,b,y,i,bo,tg,l,q,d,r,g,nu,ns,af,pr,ma,fr,mx,u)++rest,0,()) (hdQ 18 w b)=some ((rest,0,()),(18,w,b,y,i,bo,tg,l,q,d,r,g,nu,ns,af,pr,ma,fr,mx,u),()):=by
 have zk:=Zzk hs (by decide +kernel)
 have gi:=ybe hs.f105 (show inB (hasQ 18) 105=true by decide +kernel)
 have zB:=ZzB hs (by decide +kernel)
 have zt:=Zzt hs (by decide +kernel)
 have zl:=Zzl hs (by decide +kernel)
 have zy:=Zzy hs (by decide +kernel)
 have zd:=Zzd hs (by decide +kernel)
 have zr:=Zzr hs (by decide +kernel)
 have zg:=Zzg hs (by decide +kernel)
 have zn:=Zzn hs (by decide +kernel)
 have gN:=ybe hs.f78 (show inB (hasQ 18) 78=true by decide +kernel)
 have za:=Zza hs (by decide +kernel)
 have zp:=Zzp hs (by decide +kernel)
 have zm:=Zzm hs (by decide +kernel)
 have zf:=Zzf hs (by decide +kernel)
 have zx:=Zzx hs (by decide +kernel)
 rw[eP_18]at hb ⊢
 rw[show eN i++(eW ((ns.length:Nat):Int)++ns.flatMap eI)=eN i++eNums ns from rfl]at hb ⊢
 try simp only[List.append_assoc]at hb ⊢
 rw[yaa.e0]
 simp only[yaa.e1,yaa.e2,yaa.e3,yas.e0,yaF.e0,yai.e0,yai.e1,yaJ,Int.reduceBEq,bIf_t,bIf_f,yaS,bnd_s]
 rw[(rNum hn hn2).enc _ _ hr.i hb]
 try simp only[yaS,bnd_s,bIf_t,bIf_f,Int.reduceBEq]
 replace hb:=ybM hb
 rw[(rNums hn hn2).enc _ _ (show okNums ns from ⟨by have h2:((ns.length:Nat):Int)≤16:=of_decide_eq_true gN;omega,hr.ns⟩) hb]
 try simp only[yaS,bnd_s,bIf_t,bIf_f,Int.reduceBEq]
 rw[zk,zB,zt,zl,zy,zd,zr,zg,zn,za,zp,zm,zf,zx]
theorem qJ_enc_19 {n:Nat}(hn:300≤n)(hn2:n≤536870912)(hs:SndQ (19,w,b,y,i,bo,tg,l,q,d,r,g,nu,ns,af,pr,ma,fr,mx,u))(hr:QR (19,w,b,y,i,bo,tg,l,q,d,r,g,nu,ns,af,pr,ma,fr,mx,u))(hy:BY bo)(rest:List Int)(hb:BB n (eP (19,w,b,y,i,bo,tg,l,q,d,r,g,nu,ns,af,pr,ma,fr,mx,u)++rest)) :
  yaa.f n (eP (19,w,b,y,i,bo,tg,l,q,d,r,g,nu,ns,af,pr,ma,fr,mx,u)++rest,0,()) (hdQ 19 w b)=some ((rest,0,()),(19,w,b,y,i,bo,tg,l,q,d,r,g,nu,ns,af,pr,ma,fr,mx,u),()):=by
 have zk:=Zzk hs (by decide +kernel)
 have gi:=ybe hs.f105 (show inB (hasQ 19) 105=true by decide +kernel)
 have zB:=ZzB hs (by decide +kernel)
 have zt:=Zzt hs (by decide +kernel)
 have zl:=Zzl hs (by decide +kernel)
 have zy:=Zzy hs (by decide +kernel)
 have zd:=Zzd hs (by decide +kernel)
 have zr:=Zzr hs (by decide +kernel)
 have zg:=Zzg hs (by decide +kernel)
 have zn:=Zzn hs (by decide +kernel)
 have zN:=ZzN hs (by decide +kernel)
 have za:=Zza hs (by decide +kernel)
 have zp:=Zzp hs (by decide +kernel)
 have zm:=Zzm hs (by decide +kernel)
 have zf:=Zzf hs (by decide +kernel)
 have zx:=Zzx hs (by decide +kernel)
 rw[eP_19]at hb ⊢
 try simp only[List.append_assoc]at hb ⊢
 rw[yaa.e0]
 simp only[yaa.e1,yaa.e2,yaa.e3,yas.e0,yaF.e0,yai.e0,yai.e1,yaJ,Int.reduceBEq,bIf_t,bIf_f,yaS,bnd_s]
 rw[(rNum hn hn2).enc _ _ hr.i hb]
 try simp only[yaS,bnd_s,bIf_t,bIf_f,Int.reduceBEq]
 rw[zk,zB,zt,zl,zy,zd,zr,zg,zn,zN,za,zp,zm,zf,zx]
theorem qJ_enc_20 {n:Nat}(hn:300≤n)(hn2:n≤536870912)(hs:SndQ (20,w,b,y,i,bo,tg,l,q,d,r,g,nu,ns,af,pr,ma,fr,mx,u))(hr:QR (20,w,b,y,i,bo,tg,l,q,d,r,g,nu,ns,af,pr,ma,fr,mx,u))(hy:BY bo)(rest:List Int)(hb:BB n (eP (20,w,b,y,i,bo,tg,l,q,d,r,g,nu,ns,af,pr,ma,fr,mx,u)++rest)) :
  yaa.f n (eP (20,w,b,y,i,bo,tg,l,q,d,r,g,nu,ns,af,pr,ma,fr,mx,u)++rest,0,()) (hdQ 20 w b)=some ((rest,0,()),(20,w,b,y,i,bo,tg,l,q,d,r,g,nu,ns,af,pr,ma,fr,mx,u),()):=by
 have gk:=ybe hs.f107 (show inB (hasQ 20) 107=true by decide +kernel)
 have zi:=Zzi hs (by decide +kernel)
 have zB:=ZzB hs (by decide +kernel)
 have zt:=Zzt hs (by decide +kernel)
 have zl:=Zzl hs (by decide +kernel)
 have zy:=Zzy hs (by decide +kernel)
 have zd:=Zzd hs (by decide +kernel)
 have zr:=Zzr hs (by decide +kernel)
 have zg:=Zzg hs (by decide +kernel)
 have zn:=Zzn hs (by decide +kernel)
 have zN:=ZzN hs (by decide +kernel)
 have za:=Zza hs (by decide +kernel)
 have zp:=Zzp hs (by decide +kernel)
 have zm:=Zzm hs (by decide +kernel)
 have gf:=ybe hs.f102 (show inB (hasQ 20) 102=true by decide +kernel)
 have zx:=Zzx hs (by decide +kernel)
 have g6:(ybB fr.1&&(keyB fr.2.1&&decide (fr.2.2.1≥1)))=true:=gf
 rw[Bool.and_eq_true,Bool.and_eq_true]at g6
 have g7:=bucketB_len g6.1
 have g8:=ydM g6.2.1
 rw[eP_20]at hb ⊢
 try simp only[List.append_assoc]at hb ⊢
 rw[yaa.e0]
 simp only[yaa.e1,yaa.e2,yaa.e3,yas.e0,yaF.e0,yai.e0,yai.e1,yaJ,Int.reduceBEq,bIf_t,bIf_f,yaS,bnd_s]
 rw[(rText hn hn2).enc _ _ (show y.size≤16384 by have h200:y.size≤200:=ydM gk;omega) hb]
 try simp only[yaS,bnd_s,bIf_t,bIf_f,Int.reduceBEq]
 replace hb:=ybM hb
 rw[(rText hn hn2).enc _ _ (show fr.1.size≤16384 by omega) hb]
 try simp only[yaS,bnd_s,bIf_t,bIf_f,Int.reduceBEq]
 replace hb:=ybM hb
 rw[(rText hn hn2).enc _ _ (show fr.2.1.size≤16384 by omega) hb]
 try simp only[yaS,bnd_s,bIf_t,bIf_f,Int.reduceBEq]
 replace hb:=ybM hb
 rw[(rNum hn hn2).enc _ _ hr.fi hb]
 try simp only[yaS,bnd_s,bIf_t,bIf_f,Int.reduceBEq]
 rw[zi,zB,zt,zl,zy,zd,zr,zg,zn,zN,za,zp,zm,zx]
theorem qJ_enc_21 {n:Nat}(hn:300≤n)(hn2:n≤536870912)(hs:SndQ (21,w,b,y,i,bo,tg,l,q,d,r,g,nu,ns,af,pr,ma,fr,mx,u))(hr:QR (21,w,b,y,i,bo,tg,l,q,d,r,g,nu,ns,af,pr,ma,fr,mx,u))(hy:BY bo)(rest:List Int)(hb:BB n (eP (21,w,b,y,i,bo,tg,l,q,d,r,g,nu,ns,af,pr,ma,fr,mx,u)++rest)) :
  yaa.f n (eP (21,w,b,y,i,bo,tg,l,q,d,r,g,nu,ns,af,pr,ma,fr,mx,u)++rest,0,()) (hdQ 21 w b)=some ((rest,0,()),(21,w,b,y,i,bo,tg,l,q,d,r,g,nu,ns,af,pr,ma,fr,mx,u),()):=by
 have zk:=Zzk hs (by decide +kernel)
 have zi:=Zzi hs (by decide +kernel)
 have zB:=ZzB hs (by decide +kernel)
 have zt:=Zzt hs (by decide +kernel)
 have zl:=Zzl hs (by decide +kernel)
 have zy:=Zzy hs (by decide +kernel)
 have zd:=Zzd hs (by decide +kernel)
 have zr:=Zzr hs (by decide +kernel)
 have zg:=Zzg hs (by decide +kernel)
 have zn:=Zzn hs (by decide +kernel)
 have zN:=ZzN hs (by decide +kernel)
 have za:=Zza hs (by decide +kernel)
 have zp:=Zzp hs (by decide +kernel)
 have zm:=Zzm hs (by decide +kernel)
 have zf:=Zzf hs (by decide +kernel)
 have zx:=Zzx hs (by decide +kernel)
 rw[eP_21]at hb ⊢
 try simp only[List.append_assoc]at hb ⊢
 rw[yaa.e0]
 simp only[yaa.e1,yaa.e2,yaa.e3,yas.e0,yaF.e0,yai.e0,yai.e1,yaJ,Int.reduceBEq,bIf_t,bIf_f,yaS,bnd_s]
 rw[zk,zi,zB,zt,zl,zy,zd,zr,zg,zn,zN,za,zp,zm,zf,zx]
 try rfl
theorem qJ_enc_22 {n:Nat}(hn:300≤n)(hn2:n≤536870912)(hs:SndQ (22,w,b,y,i,bo,tg,l,q,d,r,g,nu,ns,af,pr,ma,fr,mx,u))(hr:QR (22,w,b,y,i,bo,tg,l,q,d,r,g,nu,ns,af,pr,ma,fr,mx,u))(hy:BY bo)(rest:List Int)(hb:BB n (eP (22,w,b,y,i,bo,tg,l,q,d,r,g,nu,ns,af,pr,ma,fr,mx,u)++rest)) :
  yaa.f n (eP (22,w,b,y,i,bo,tg,l,q,d,r,g,nu,ns,af,pr,ma,fr,mx,u)++rest,0,()) (hdQ 22 w b)=some ((rest,0,()),(22,w,b,y,i,bo,tg,l,q,d,r,g,nu,ns,af,pr,ma,fr,mx,u),()):=by
 have zk:=Zzk hs (by decide +kernel)
 have zi:=Zzi hs (by decide +kernel)
 have zB:=ZzB hs (by decide +kernel)
 have zt:=Zzt hs (by decide +kernel)
 have zl:=Zzl hs (by decide +kernel)
 have zy:=Zzy hs (by decide +kernel)
 have zd:=Zzd hs (by decide +kernel)
 have zr:=Zzr hs (by decide +kernel)
 have zg:=Zzg hs (by decide +kernel)
 have zn:=Zzn hs (by decide +kernel)
 have zN:=ZzN hs (by decide +kernel)
 have za:=Zza hs (by decide +kernel)
 have zp:=Zzp hs (by decide +kernel)
 have zm:=Zzm hs (by decide +kernel)
 have zf:=Zzf hs (by decide +kernel)
 have zx:=Zzx hs (by decide +kernel)
 rw[eP_22]at hb ⊢
 try simp only[List.append_assoc]at hb ⊢
 rw[yaa.e0]
 simp only[yaa.e1,yaa.e2,yaa.e3,yas.e0,yaF.e0,yai.e0,yai.e1,yaJ,Int.reduceBEq,bIf_t,bIf_f,yaS,bnd_s]
 rw[zk,zi,zB,zt,zl,zy,zd,zr,zg,zn,zN,za,zp,zm,zf,zx]
 try rfl
end Go.Proofs.YtdlkpmohjhjmfaaGreatDoor
namespace Go.Proofs.YtdlkpmohjhjmfaaGreatDoor
open Go Go.Va Go.Proofs
theorem VI_z {n:Nat}(h:0<n):VI n verZ:=⟨VBz h,U64_0,I64_0,U64_0,I64_0,BY_zero 32⟩
end Go.Proofs.YtdlkpmohjhjmfaaGreatDoor
namespace Go.Proofs.YtdlkpmohjhjmfaaGreatDoor
open Go Go.Va Go.Proofs
theorem qJ_any {n:Nat}(hn:300≤n)(hn2:n≤536870912)(k:Int){w b:ByteArray}(hw:w.size<n)(hbk:b.size<n)(b0:List Int)(e0:Int)(hb0:BB n b0) :
  ∃ (x:Q) (b':List Int) (e':Int),yaa.f n (b0,e0,()) (hdQ k w b)=some ((b',e',()),x,())∧BB n b'∧bdQ n x:=by
 by_cases hk:1≤k∧k≤22
 ·have:k=1∨k=2∨k=3∨k=4∨k=5∨k=6∨k=7∨k=8∨k=9∨k=10∨k=11∨k=12∨k=13∨k=14∨k=15∨k=16∨k=17∨k=18∨k=19∨k=20∨k=21∨k=22:=by omega
  rcases this with h | h | h | h | h | h | h | h | h | h | h | h | h | h | h | h | h | h | h | h | h | h<;>subst h
  ·exact qJ_any_1 hn hn2 hw hbk b0 e0 hb0
  ·exact qJ_any_2 hn hn2 hw hbk b0 e0 hb0
  ·exact qJ_any_3 hn hn2 hw hbk b0 e0 hb0
  ·exact qJ_any_4 hn hn2 hw hbk b0 e0 hb0
  ·exact qJ_any_5 hn hn2 hw hbk b0 e0 hb0
  ·exact qJ_any_6 hn hn2 hw hbk b0 e0 hb0
  ·exact qJ_any_7 hn hn2 hw hbk b0 e0 hb0
  ·exact qJ_any_8 hn hn2 hw hbk b0 e0 hb0
  ·exact qJ_any_9 hn hn2 hw hbk b0 e0 hb0
  ·exact qJ_any_10 hn hn2 hw hbk b0 e0 hb0
  ·exact qJ_any_11 hn hn2 hw hbk b0 e0 hb0
  ·exact qJ_any_12 hn hn2 hw hbk b0 e0 hb0
  ·exact qJ_any_13 hn hn2 hw hbk b0 e0 hb0
  ·exact qJ_any_14 hn hn2 hw hbk b0 e0 hb0
  ·exact qJ_any_15 hn hn2 hw hbk b0 e0 hb0
  ·exact qJ_any_16 hn hn2 hw hbk b0 e0 hb0
  ·exact qJ_any_17 hn hn2 hw hbk b0 e0 hb0
  ·exact qJ_any_18 hn hn2 hw hbk b0 e0 hb0
  ·exact qJ_any_19 hn hn2 hw hbk b0 e0 hb0
  ·exact qJ_any_20 hn hn2 hw hbk b0 e0 hb0
  ·exact qJ_any_21 hn hn2 hw hbk b0 e0 hb0
  ·exact qJ_any_22 hn hn2 hw hbk b0 e0 hb0
 ·have h0:0<n:=by omega
  have c1:(k==1)=false:=by rw[beq_eq_false_iff_ne];omega
  have c2:(k==2)=false:=by rw[beq_eq_false_iff_ne];omega
  have c3:(k==3)=false:=by rw[beq_eq_false_iff_ne];omega
  have c4:(k==4)=false:=by rw[beq_eq_false_iff_ne];omega
  have c5:(k==5)=false:=by rw[beq_eq_false_iff_ne];omega
  have c6:(k==6)=false:=by rw[beq_eq_false_iff_ne];omega
  have c7:(k==7)=false:=by rw[beq_eq_false_iff_ne];omega
  have c8:(k==8)=false:=by rw[beq_eq_false_iff_ne];omega
  have c9:(k==9)=false:=by rw[beq_eq_false_iff_ne];omega
  have c10:(k==10)=false:=by rw[beq_eq_false_iff_ne];omega
  have c11:(k==11)=false:=by rw[beq_eq_false_iff_ne];omega
  have c12:(k==12)=false:=by rw[beq_eq_false_iff_ne];omega
  have c13:(k==13)=false:=by rw[beq_eq_false_iff_ne];omega
  have c14:(k==14)=false:=by rw[beq_eq_false_iff_ne];omega
  have c15:(k==15)=false:=by rw[beq_eq_false_iff_ne];omega
  have c16:(k==16)=false:=by rw[beq_eq_false_iff_ne];omega
  have c17:(k==17)=false:=by rw[beq_eq_false_iff_ne];omega
  have c18:(k==18)=false:=by rw[beq_eq_false_iff_ne];omega
  have c19:(k==19)=false:=by rw[beq_eq_false_iff_ne];omega
  have c20:(k==20)=false:=by rw[beq_eq_false_iff_ne];omega
  have c21:(k==21)=false:=by rw[beq_eq_false_iff_ne];omega
  have c22:(k==22)=false:=by rw[beq_eq_false_iff_ne];omega
  rw[yaa.e0]
  simp only[yaa.e1,yaa.e2,yaa.e3,yaJ,c1,c2,c3,c4,c5,c6,c7,c8,c9,c10,c11,c12,c13,c14,c15,c16,c17,c18,c19,c20,c21,c22,bIf_t,bIf_f]
  exact⟨_,_,_,rfl,hb0,mkQ hw hbk h0 U64_0 ⟨h0,ydZ⟩ ⟨h0,by intro t ht;exact nomatch ht⟩ I64_0 ⟨h0,by intro t ht;exact nomatch ht⟩ ⟨h0,by intro t ht;exact nomatch ht⟩ ⟨Nat.zero_le 16,by intro t ht;exact nomatch ht⟩ h0 h0 h0 h0 h0 U64_0 hn⟩
theorem qJ_enc {n:Nat}(hn:300≤n)(hn2:n≤536870912){e:Q}(hs:SndQ e)(hr:QR e)(hy:BY e.2.2.2.2.2.1)(rest:List Int)(hb:BB n (eP e++rest)) :
  yaa.f n (eP e++rest,0,()) (hdQ e.1 e.2.1 e.2.2.1)=some ((rest,0,()),e,()):=by
 have hk:=hs.kind
 obtain⟨k,w,b,y,i,bo,tg,l,q,d,r,g,nu,ns,af,pr,ma,fr,mx,u⟩:=e
 have:k=1∨k=2∨k=3∨k=4∨k=5∨k=6∨k=7∨k=8∨k=9∨k=10∨k=11∨k=12∨k=13∨k=14∨k=15∨k=16∨k=17∨k=18∨k=19∨k=20∨k=21∨k=22:=by
  obtain⟨h1,h2⟩:=hk
  dsimp only at h1 h2
  omega
 rcases this with h | h | h | h | h | h | h | h | h | h | h | h | h | h | h | h | h | h | h | h | h | h<;>subst h
 ·exact qJ_enc_1 w b y i bo tg l q d r g nu ns af pr ma fr mx u hn hn2 hs hr hy rest hb
 ·exact qJ_enc_2 w b y i bo tg l q d r g nu ns af pr ma fr mx u hn hn2 hs hr hy rest hb
 ·exact qJ_enc_3 w b y i bo tg l q d r g nu ns af pr ma fr mx u hn hn2 hs hr hy rest hb
 ·exact qJ_enc_4 w b y i bo tg l q d r g nu ns af pr ma fr mx u hn hn2 hs hr hy rest hb
 ·exact qJ_enc_5 w b y i bo tg l q d r g nu ns af pr ma fr mx u hn hn2 hs hr hy rest hb
 ·exact qJ_enc_6 w b y i bo tg l q d r g nu ns af pr ma fr mx u hn hn2 hs hr hy rest hb
 ·exact qJ_enc_7 w b y i bo tg l q d r g nu ns af pr ma fr mx u hn hn2 hs hr hy rest hb
 ·exact qJ_enc_8 w b y i bo tg l q d r g nu ns af pr ma fr mx u hn hn2 hs hr hy rest hb
 ·exact qJ_enc_9 w b y i bo tg l q d r g nu ns af pr ma fr mx u hn hn2 hs hr hy rest hb
 ·exact qJ_enc_10 w b y i bo tg l q d r g nu ns af pr ma fr mx u hn hn2 hs hr hy rest hb
 ·exact qJ_enc_11 w b y i bo tg l q d r g nu ns af pr ma fr mx u hn hn2 hs hr hy rest hb
 ·exact qJ_enc_12 w b y i bo tg l q d r g nu ns af pr ma fr mx u hn hn2 hs hr hy rest hb
 ·exact qJ_enc_13 w b y i bo tg l q d r g nu ns af pr ma fr mx u hn hn2 hs hr hy rest hb
 ·exact qJ_enc_14 w b y i bo tg l q d r g nu ns af pr ma fr mx u hn hn2 hs hr hy rest hb
 ·exact qJ_enc_15 w b y i bo tg l q d r g nu ns af pr ma fr mx u hn hn2 hs hr hy rest hb
 ·exact qJ_enc_16 w b y i bo tg l q d r g nu ns af pr ma fr mx u hn hn2 hs hr hy rest hb
 ·exact qJ_enc_17 w b y i bo tg l q d r g nu ns af pr ma fr mx u hn hn2 hs hr hy rest hb
 ·exact qJ_enc_18 w b y i bo tg l q d r g nu ns af pr ma fr mx u hn hn2 hs hr hy rest hb
 ·exact qJ_enc_19 w b y i bo tg l q d r g nu ns af pr ma fr mx u hn hn2 hs hr hy rest hb
 ·exact qJ_enc_20 w b y i bo tg l q d r g nu ns af pr ma fr mx u hn hn2 hs hr hy rest hb
 ·exact qJ_enc_21 w b y i bo tg l q d r g nu ns af pr ma fr mx u hn hn2 hs hr hy rest hb
 ·exact qJ_enc_22 w b y i bo tg l q d r g nu ns af pr ma fr mx u hn hn2 hs hr hy rest hb
abbrev zeroQ:Q:=hdQ 0 ⟨#[]⟩ ⟨#[]⟩
noncomputable def finQ (b:List Int)(x:Q)(b':List Int)(e':Int):Option (Q×Int×Unit):=
 if e'=0∧b'.length=0∧(askS x).2=0∧eqS (yaT (askS x).1) (yaT b)=true then some (x,0,()) else some (zeroQ,2,())
theorem askJ2 {n:Nat}(hn:300≤n)(hn2:n≤536870912)(b:List Int)(b2:Q)(r:ya7)(hd:Q)(rd:yam){x:Q}{b':List Int}{e':Int}
  (h:yaa.f n rd hd=some ((b',e',()),x,())) (hx:bdQ n x):ybs.J2 n (b,b2,r,hd,rd,())=finQ b x b' e':=by
 obtain⟨r',h1⟩:=rEnd hn hn2 b' e'
 rw[ybs.e2]
 change (bnd (yaa.f n rd hd) _)=_
 rw[h,yab]
 try dsimp only
 rw[h1,yab,yap]
 unfold finQ
 try dsimp only
 by_cases h:e'=0
 ·rw[if_pos h]
  by_cases h0:b'.length=0
  ·rw[if_pos h0,show ((0:Int) != 0)=false from rfl,yaj]
   change (bnd (ycX.f n x) _)=_
   rw[wire_Ask hn hn2 hx.1 hx.2.1,yab,yap]
   try dsimp only
   by_cases h2:(askS x).2=0
   ·rw[h2,show ((0:Int) != 0)=false from rfl,yaj,ybn.e0,yab,yap]
    try dsimp only
    cases h3:eqS (yaT (askS x).1) (yaT b)
    ·rw[if_neg (by rintro⟨_,_,_,h⟩;exact nomatch h),ybs.e3];rfl
    ·rw[ybs.e3,Bool.not_true,yaj,ybs.e4,if_pos ⟨h,h0,rfl,rfl⟩]
   ·rw[show ((askS x).2 != 0)=true by rw[bne,beq_eq_false_iff_ne.2 h2];rfl,yaq,if_neg (λhh=>h2 hh.2.2.1),ybs.e3];rfl
  ·rw[if_neg h0,if_neg (λhh=>h0 hh.2.1)];rfl
 ·rw[if_neg h,show (e' != 0)=true by rw[bne,beq_eq_false_iff_ne.2 h];rfl,yaq,if_neg (λhh=>h hh.1)]
theorem asked_any {n:Nat}(hn:300≤n)(hn2:n≤536870912){b:List Int}(hb:BB n b):∃ (x:Q) (b':List Int) (e':Int),ybs.f n b=finQ b x b' e'∧bdQ n x:=by
 have hlen:=hb.len
 have h0:(⟨#[]⟩:ByteArray).size<n:=by change 0<n;omega
 rw[ybs.e0,ydz.e0,yfb.e0,clone_byte (by omega),yab,yab,yab]
 try dsimp only
 obtain⟨k,b1,e1,h1,hb1,d1⟩:=(rSmall hn hn2).any b 0 hb
 rw[h1,yab]
 try dsimp only
 obtain⟨w,b2,e2,h2,hb2,d2⟩:=(rText hn hn2).any b1 e1 hb1
 rw[h2,yab,yap,yap]
 try dsimp only
 have key1:∀ q z,∃ (x:Q) (b':List Int) (e':Int),ybs.J1 n (b,false,z,q,hdQ k w ⟨#[]⟩,(b2,e2,()),())=finQ b x b' e'∧bdQ n x:=by
  intro q z
  obtain⟨x,b',e',h3,h4,h5⟩:=qJ_any hn hn2 k d2 h0 b2 e2 hb2
  rw[ybs.e1,yaj]
  exact⟨x,b',e',askJ2 hn hn2 b _ _ _ _ h3 h5,h5⟩
 have key2:∀ q z,∃ (x:Q) (b':List Int) (e':Int),ybs.J1 n (b,true,z,q,hdQ k w ⟨#[]⟩,(b2,e2,()),())=finQ b x b' e'∧bdQ n x:=by
  intro q z
  obtain⟨bk,b3,e3,h3,hb3,d3⟩:=(rText hn hn2).any b2 e2 hb2
  obtain⟨x,b',e',h4,h5,h6⟩:=qJ_any hn hn2 k d2 d3 b3 e3 hb3
  rw[ybs.e1,yaq,h3,yab]
  exact⟨x,b',e',askJ2 hn hn2 b _ _ _ _ h4 h6,h6⟩
 cases (k != 21)
 ·exact key1 _ _
 ·cases (k != 22)
  ·exact key1 _ _
  ·exact key2 _ _
theorem asked_enc {n:Nat}(hn:300≤n)(hn2:n≤536870912){e:Q}(hs:SndQ e)(hx:bdQ n e){rest:List Int}(hb:BB n (encQ e++rest)):ybs.f n (encQ e++rest)=finQ (encQ e++rest) e rest 0:=by
 have hlen:=hb.len
 have hk:=hs.kind
 have hsb:=hs.b
 have hsw:=hs.w
 have hb2:=hb
 rw[ybs.e0,ydz.e0,yfb.e0,clone_byte (by omega),yab,yab,yab]
 try dsimp only
 have e1:encQ e++rest=eW e.1++(eT e.2.1++((if 21≤e.1 then [] else eT e.2.2.1)++(eP e++rest))):=by unfold encQ;simp only[List.append_assoc]
 rw[e1]at hb2
 have h1:=(rSmall hn hn2).enc e.1 _ ⟨by omega,by omega⟩ hb2
 rw[← e1]at h1
 rw[h1,yab]
 try dsimp only
 replace hb2:=ybM hb2
 rw[(rText hn hn2).enc _ _ (by omega) hb2,yab,yap,yap]
 try dsimp only
 replace hb2:=ybM hb2
 by_cases h21:21≤e.1
 ·rw[if_pos h21]at hb2 ⊢ hsb
  rw[List.nil_append]at hb2 ⊢
  have hbb:=yeH hsb
  have h3:=qJ_enc hn hn2 hs hx.2.1 hx.2.2 rest hb2
  rw[hbb]at h3
  have key:∀ q z,ybs.J1 n (encQ e++rest,false,z,q,hdQ e.1 e.2.1 ⟨#[]⟩,(eP e++rest,0,()),())=finQ (encQ e++rest) e rest 0:=by
   intro q z
   rw[ybs.e1,yaj]
   exact askJ2 hn hn2 _ _ _ _ _ h3 hx
  by_cases h0:e.1=21
  ·rw[show (e.1 != 21)=false by rw[h0];rfl,yaj];exact key _ _
  ·rw[show (e.1 != 21)=true by rw[bne,beq_eq_false_iff_ne.2 h0];rfl,yaq,show (e.1 != 22)=false by rw[show e.1=22 by omega];rfl];exact key _ _
 ·rw[if_neg h21]at hb2 ⊢ hsb
  have hbl:=bucketB_len hsb
  have h3:=qJ_enc hn hn2 hs hx.2.1 hx.2.2 rest (ybM hb2)
  rw[show (e.1 != 21)=true by rw[bne,beq_eq_false_iff_ne.2 (by omega)];rfl,yaq,show (e.1 != 22)=true by rw[bne,beq_eq_false_iff_ne.2 (by omega)];rfl,ybs.e1,yaq,(rText hn hn2).enc _ _ (by omega) hb2,yab]
  exact askJ2 hn hn2 _ _ _ _ _ h3 hx
theorem askS_ok {e:Q}(h:(askS e).2=0):goodQ e=true∧(askS e).1=encQ e:=by
 unfold askS at h ⊢
 cases hg:goodQ e
 ·rw[hg]at h;exact absurd (show (2:Int)=0 from h) (by decide)
 ·exact⟨rfl,rfl⟩
theorem BY_ite {c:Prop} [Decidable c]{a b:List Int}(ha:BY a)(hb:BY b):BY (if c then a else b):=by split<;>assumption
theorem BY_Def (d:yaL):BY (eDef d):=ydB (BY_W _) (BY_W _)
theorem BY_Rules (l:List yau):BY (eRules l):=ydB (BY_W _) (BY_flat λr _=>ydB (BY_T _) (ydB (BY_Tags _) (ydB (BY_W _) (ydB (BY_W _) (BY_F _)))))
theorem BY_Grants (l:List yat):BY (eGrants l):=ydB (BY_W _) (BY_flat λr _=>ydB (BY_F _) (ydB (BY_T _) (ydB (BY_T _) (BY_T _))))
theorem BY_flI (l:List Int):BY (l.flatMap eI):=BY_flat λx _=>BY_I x
theorem BY_P (e:Q):BY (eP e):=by
 unfold eP
 repeat' with_reducible (first | exact ydZ | exact BY_T _ | exact BY_N _ | exact BY_W _ | exact BY_F _ | exact BY_Lock _ | exact BY_Tags _ | exact BY_Def _ | exact BY_Rules _ | exact BY_Grants _ | exact BY_flI _ | apply BY_ite | apply ydB)
theorem BY_Q (e:Q):BY (encQ e):=by
 refine ydB (BY_W _) (ydB (BY_T _) (ydB ?_ (BY_P e)))
 split
 ·exact ydZ
 ·exact BY_T _
theorem sameQ_refl (a:Q):sameQ a a=true:=by
 unfold sameQ
 rw[ybF,ybF,ybF,ydp,yec,ybF,ybF,ybF,ydE,ybF,allB_refl _ (λx _=>sameT_refl x),allB_refl _ (λx _=>ruleRefl x),allB_refl _ (λx _=>grantRefl x),allB_refl (q:=sameI) _ (λx _=>(beq_self_eq_true x:(x==x)=true))]
 simp only[beq_self_eq_true,Bool.and_true]
theorem asked_back {n:Nat}(hn:30000≤n)(hn2:n≤536870912){e:Q}(hx:bdQ n e)(h:(askS e).2=0):ybs.f n (encQ e)=some (e,0,()):=by
 obtain⟨hg,h1⟩:=askS_ok h
 have hs:=sndQ_of hg
 have:=asked_enc (by omega) hn2 hs hx (rest:=[]) ⟨by rw[List.append_nil];have:=encQ_len hs;omega,by rw[List.append_nil];exact BY_Q e⟩
 rw[List.append_nil]at this
 rw[this]
 unfold finQ
 rw[if_pos ⟨rfl,rfl,h,by rw[h1];exact ybF _⟩]
theorem asked_reads {n:Nat}(hn:30000≤n)(hn2:n≤536870912){b:List Int}(hb:BB n b):ybs.f n b=some (zeroQ,2,())∨∃ x,ybs.f n b=some (x,0,())∧bdQ n x∧(askS x).2=0∧encQ x=b:=by
 obtain⟨x,b',e',h1,h3⟩:=asked_any (by omega) hn2 hb
 rw[h1]
 unfold finQ
 by_cases h:e'=0∧b'.length=0∧(askS x).2=0∧eqS (yaT (askS x).1) (yaT b)=true
 ·rw[if_pos h]
  have h4:=(askS_ok h.2.2.1).2
  have h5:=h.2.2.2
  rw[h4]at h5
  exact .inr ⟨x,rfl,h3,h.2.2.1,bytes_inj (BY_Q x) hb.byte h5⟩
 ·rw[if_neg h];exact .inl rfl
end Go.Proofs.YtdlkpmohjhjmfaaGreatDoor
namespace Go.Proofs.YtdlkpmohjhjmfaaGreatDoor
open Go Go.Va Go.Proofs
end Go.Proofs.YtdlkpmohjhjmfaaGreatDoor
namespace Go.Proofs.YtdlkpmohjhjmfaaGreatDoor
open Go Go.Va Go.Proofs
theorem RI_err {n:Nat}(h:0<n)(e:Int):RI n (errRP e):=⟨⟨h,VBz h,h,(λx hx=>nomatch hx),h,h⟩,U64_0,VI_z h,(λx hx=>nomatch hx),(λx hx=>nomatch hx),ydZ⟩
theorem tellS_ok {r:RP}(h:(tellS r).2=0):goodRP r=true∧(tellS r).1=encRP r:=by
 unfold tellS at h ⊢
 cases hg:goodRP r
 ·rw[hg]at h;exact absurd (show (2:Int)=0 from h) (by decide)
 ·exact⟨rfl,rfl⟩
theorem BY_RP {n:Nat}{r:RP}(hi:RI n r):BY (encRP r):=by
 refine ydB (BY_W _) (BY_ite ?_ ydZ)
 refine ydB (BY_N _) (ydB (BY_T _) (ydB ?_ (ydB ?_ (ydB (BY_F _) (ydB (ydB (BY_W _) (BY_flat λx _=>BY_W x)) (ydB (BY_W _) (BY_flat λx _=>BY_T x)))))))
 ·exact ydB (BY_F _) (BY_ite ydZ (BY_Ver hi.ver.dy))
 ·exact ydB (BY_W _) (BY_flat λx hx=>ydB (BY_T _) (ydB (BY_F _) (BY_ite ydZ (ydB (BY_Ver (hi.row x hx).2.dy) (BY_F _)))))
theorem encRP_len {n:Nat}{r:RP}(hg:goodRP r=true)(hi:RI n r):(encRP r).length≤200010:=by
 unfold encRP
 rw[List.length_append]
 have h1:=ye5 r.1
 by_cases h0:r.1=0
 ·rw[if_pos h0]
  have:=encF_len (good_fine hg h0) hi
  omega
 ·rw[if_neg h0,List.length_nil];omega
end Go.Proofs.YtdlkpmohjhjmfaaGreatDoor
namespace Go.Proofs.YtdlkpmohjhjmfaaGreatDoor
open Go Go.Va Go.Proofs Go.ChangeShapes Go.WideShapes Go.ChangeAt Go.RowKit
theorem kids:Kids Tryz.prog (· < Tryz.prog.types.size):=kids_rows (by kernel_rfl) (by kernel_rfl)
theorem full:∀ t e,t<Tryz.prog.types.size→Tryz.prog.underlying t=some (.slice e)→0<Tryz.prog.cellsOf e:=slices_full_of Tryz.prog (by kernel_rfl)
theorem own:ownKnob Tryz.prog.godebug=none:=by kernel_rfl
mutual
theorem bulk_eq {H:Type}:∀ (d:DataW H),Rows.uptoBulk d=bulk d
 | .lit l=>by cases l<;>simp[Rows.uptoBulk,bulk]
 | .nil=>by simp[Rows.uptoBulk,bulk]
 | .ptr d=>by simp[Rows.uptoBulk,bulk,bulk_eq d]
 | .slice elems spare=>by simp[Rows.uptoBulk,bulk,bulkL_eq elems,bulkL_eq spare]
 | .agg parts=>by simp[Rows.uptoBulk,bulk,bulkL_eq parts]
 | .iface _ d=>by simp[Rows.uptoBulk,bulk,bulk_eq d]
 | .map entries=>by simp[Rows.uptoBulk,bulk,bulkE_eq entries]
 | .held _=>by simp[Rows.uptoBulk,bulk]
theorem bulkL_eq {H:Type}:∀ (l:List (DataW H)),Rows.uptoBulkAll l=bulkL l
 | []=>by simp[Rows.uptoBulkAll,bulkL]
 | d::r=>by simp[Rows.uptoBulkAll,bulkL,bulk_eq d,bulkL_eq r]
theorem bulkE_eq {H:Type}:∀ (l:List (Lit×DataW H)),Rows.uptoBulkEntries l=bulkE l
 | []=>by simp[Rows.uptoBulkEntries,bulkE]
 | x::r=>by simp[Rows.uptoBulkEntries,bulkE,bulkX_eq x,bulkE_eq r]
theorem bulkX_eq {H:Type}:∀ (x:Lit×DataW H),Rows.uptoBulkEntry x=bulkX x
 | (l,d)=>by cases l<;>simp[Rows.uptoBulkEntry,bulkX,bulk_eq d]
end
theorem small_of {H:Type}{ds gs:List (DataW H)}(h:Rows.uptoSmall H (ds++gs)=true):bulkL ds≤1048576:=by
 have h:=of_decide_eq_true h
 rw[bulkL_eq,bulkL_append]at h
 omega
theorem vol_mem {e:Ty}{l:List (Den e)}{x:Den e}(h:x∈l):vol e x≤(l.map (vol e)).sum:=by
 induction l with
 | nil=>simp at h
 | cons y l ih=>
  rw[List.map_cons,List.sum_cons]
  rcases List.mem_cons.1 h with rfl | h
  ·omega
  ·have:=ih h;omega
theorem vol_len {e:Ty}{l:List (Den e)}(h:∀ x∈l,1≤vol e x):l.length≤(l.map (vol e)).sum:=by
 induction l with
 | nil=>simp
 | cons y l ih=>
  rw[List.map_cons,List.sum_cons,List.length_cons]
  have h1:=h y List.mem_cons_self
  have h2:=ih (λx hx=>h x (List.mem_cons_of_mem _ hx))
  omega
theorem vol_Tag (t:yaz):vol yaw t=t.1.size+1+(t.2.1.size+1):=rfl
theorem vol_Rule (r:yau):vol yaC r=r.1.size+1+(((r.2.1.map (vol yaw)).sum+1)+vol yaO r.2.2):=rfl
theorem vol_Grant (g:yat):vol yaD g=1+(g.2.1.size+1+(g.2.2.1.size+1+(g.2.2.2.1.size+1))):=rfl
theorem u64_of {x:Int}(h:IntKind.u64.min≤x∧x≤IntKind.u64.max):U64 x:=by
 have h1:(0:Int)≤x:=h.1
 have h2:x≤18446744073709551615:=h.2
 exact⟨h1,by omega⟩
theorem i64_of {x:Int}(h:IntKind.i64.min≤x∧x≤IntKind.i64.max):I64 x:=by
 have h1:(-9223372036854775808:Int)≤x:=h.1
 have h2:x≤9223372036854775807:=h.2
 exact⟨h1,by omega⟩
theorem u8_of {x:Int}(h:IntKind.u8.min≤x∧x≤IntKind.u8.max):0≤x∧x≤255:=⟨h.1,h.2⟩
theorem Ts_of {n:Nat}{l:List yaz}(h:(l.map (vol yaw)).sum<n):TsB n l:=by
 have hl:=vol_len (e:=yaw) (l:=l) (λx _=>by rw[vol_Tag];omega)
 exact⟨by omega,λt ht=>by have:=vol_mem (e:=yaw) ht;rw[vol_Tag]at this;exact⟨by omega,by omega⟩⟩
theorem acc_eq:(Rows.laid_unicode_utf8_acceptRanges:DataW Unit)=Lib.acceptData:=by kernel_rfl
theorem fst_eq:Rows.laid_unicode_utf8_first=Lib.firstData:=by kernel_rfl
theorem p10_eq:(Rows.laid_internal_strconv_uint64pow10:DataW Unit)=Lib.tabData .u64 Lib.pow10Tab:=by kernel_rfl
theorem tabs_of {W : World} (h3 : Lib.VarReads Tryz.prog W "unicode/utf8.first" Lib.firstData) (h4 : Lib.VarReads Tryz.prog W "unicode/utf8.acceptRanges" Lib.acceptData) : Lib.Utf8Tabs 2 3 W :=
 utf8Tabs_of_readsT (U8Types.of196 Tryz.l196) ⟨by kernel_rfl,by kernel_rfl,by kernel_rfl,by kernel_rfl,by kernel_rfl,by kernel_rfl,by kernel_rfl⟩ h3 h4
theorem live_of {W:World}{b o:Nat}{v:Value}(h:W.cell? ⟨b,o,none⟩=some v):b<W.heap.size:=by
 rcases Nat.lt_or_ge b W.heap.size with hb | hb
 ·exact hb
 ·have:W.heap[b]?=none:=Array.getElem?_eq_none hb
  simp[World.cell?,this]at h
theorem heap_of_var {W:World}{n:String}{g:Nat}{cs:Array Value}(hg:Tryz.prog.globalNamed n=some g)(h:W.var? Tryz.prog n=some cs):∃ t fr,W.heap[g]?=some (.cells cs t fr):=by
 unfold World.var? at h
 rw[hg,Option.bind_some]at h
 split at h
 ·rename_i cs' t fr hh
  injection h with h
  subst h
  exact⟨t,fr,hh⟩
 ·cases h
abbrev laidAll : List (String × DataW Unit) := [("math/bits.deBruijn32tab", Rows.laid_math_bits_deBruijn32tab), ("math/bits.deBruijn64tab", Rows.laid_math_bits_deBruijn64tab), ("internal/strconv.uint64pow10", Rows.laid_internal_strconv_uint64pow10), ("unicode/utf8.acceptRanges", Rows.laid_unicode_utf8_acceptRanges), ("strconv.ErrRange", Rows.laid_strconv_ErrRange), ("strconv.ErrSyntax", Rows.laid_strconv_ErrSyntax), ("unicode/utf8.first", Rows.laid_unicode_utf8_first)]
theorem errName (u : TypeId) (h : Tryz.prog.typeName? 3 u = some "*errors.errorString") : u = 293 :=
 typeName_ptr_named (nm := "errors.errorString") (by rw [show ("*" : String) ++ "errors.errorString" = "*errors.errorString" by decide]; kernel_rfl) (by kernel_rfl) (by decide) u (by rw [show ("*" : String) ++ "errors.errorString" = "*errors.errorString" by decide]; exact h)
theorem gl_of {W:World}(hL:laidMet Tryz.prog laidAll W)(hsh:W.ShapedOpen Tryz.prog):(∀ p∈Gl.tab,p.1<W.heap.size∧∃ cs,p.2 cs∧At W ⟨p.1,0,none⟩ cs)∧∀ p∈Gl.ex,∃ o,W.heap[p.1]?=some o∧p.2 o:=by
 have hT:Lib.Utf8Tabs 2 3 W:=tabs_of (fst_eq ▸ Lib.laidMet.reads hL (.tail _ (.tail _ (.tail _ (.tail _ (.tail _ (.tail _ (.head _)))))))) (acc_eq ▸ Lib.laidMet.reads hL (.tail _ (.tail _ (.tail _ (.head _)))))
 have h3:=laidMet.tail (laidMet.tail hL)
 rw[p10_eq]at h3
 have hP : Lib.TabIs Tryz.prog W "internal/strconv.uint64pow10" .u64 Lib.pow10Tab := Lib.tabIs_of_head (g := 1) (t := 227) (e := 22) (n := 20) (by kernel_rfl) (by kernel_rfl) (by kernel_rfl) (by kernel_rfl) (by kernel_rfl) (by kernel_rfl) h3
 have h5:=laidMet.tail (laidMet.tail h3)
 obtain⟨a1,s1,e1,_⟩:=laid_sentinel (tp:=293) (te:=295) (ts:=9) h5 (g:=7) (ti:=93) (by kernel_rfl) (by kernel_rfl) Tryz.underlying93 errName Tryz.underlying293 Tryz.underlying295 rfl rfl Tryz.underlying9 (by kernel_rfl) (by kernel_rfl)
 obtain⟨a2,s2,e2,_⟩:=laid_sentinel (tp:=293) (te:=295) (ts:=9) (laidMet.tail h5) (g:=6) (ti:=93) (by kernel_rfl) (by kernel_rfl) Tryz.underlying93 errName Tryz.underlying293 Tryz.underlying295 rfl rfl Tryz.underlying9 (by kernel_rfl) (by kernel_rfl)
 refine⟨?_,?_⟩
 ·obtain⟨h0,h1⟩:=hT
  intro p hp
  have hp:p=(2,λcs=>cs=firstCells)∨p=(3,λcs=>cs=yeS)∨p=(0,λcs=>∃ m,cs=[.int .i64 m]):=by simpa[Gl.tab]using hp
  rcases hp with rfl | rfl | rfl
  ·refine⟨live_of (h0 0 (by omega)),_,rfl,rfl,λj hj => ?_⟩
   have hj2:j<256:=by simpa[firstCells,Lib.firstTab]using hj
   simp only[Nat.zero_add]
   rw[h0 j hj2]
   simp[firstCells,Lib.firstTab]
  ·refine⟨live_of (h1 0 (by omega)).1,_,rfl,rfl,λj hj => ?_⟩
   have hl:yeS.length=32:=by kernel_rfl
   have hj2:j<32:=by rw[← hl];exact hj
   simp only[Nat.zero_add]
   obtain⟨e0,e1⟩:=acc_get (j/2) (by omega)
   obtain⟨c0,c1⟩:=h1 (j/2) (by omega)
   rcases Nat.mod_two_eq_zero_or_one j with hm | hm
   ·have ej:j=2*(j/2):=by omega
    rw[show (⟨3,j,none⟩:Addr)=⟨3,2*(j/2),none⟩ by rw[← ej],c0,← e0,← ej,List.getElem?_eq_getElem hj]
   ·have ej:j=2*(j/2)+1:=by omega
    rw[show (⟨3,j,none⟩:Addr)=⟨3,2*(j/2)+1,none⟩ by rw[← ej],c1,← e1,← ej,List.getElem?_eq_getElem hj]
  ·obtain⟨m,hm⟩:=cell_of_shapedOpen_int (P:=Tryz.prog) (g:=0) (t:=3) (zero := #[.int .i64 0]) hsh (of_decide_eq_true (by kernel_rfl)) (by kernel_rfl) rfl (by kernel_rfl) (by kernel_rfl) Tryz.underlying3
   refine⟨live_of hm,_,⟨m,rfl⟩,rfl,λj hj => ?_⟩
   obtain rfl:j=0:=by simpa using hj
   simpa using hm
 ·intro p hp
  have hp:p=(1,λo=>∃ t fr,o = .cells pow10Cells t fr)∨p=(6,ErrCell)∨p=(7,ErrCell):=by simpa[Gl.ex]using hp
  rcases hp with rfl | rfl | rfl
  ·obtain⟨t,fr,h⟩:=heap_of_var (by kernel_rfl) hP
   exact⟨_,h,t,fr,rfl⟩
  ·obtain⟨t,fr,h⟩:=heap_of_var (g:=6) (by kernel_rfl) e2
   exact⟨_,h,_,t,fr,rfl,.inr ⟨_,_,rfl⟩⟩
  ·obtain⟨t,fr,h⟩:=heap_of_var (g:=7) (by kernel_rfl) e1
   exact⟨_,h,_,t,fr,rfl,.inr ⟨_,_,rfl⟩⟩
noncomputable def laidWorld (os:Os):World:=
 let w0:=World.holding Tryz.prog os ⟨#[.cells #[.string ⟨#[118,97,108,117,101,32,111,117,116,32,111,102,32,114,97,110,103,101]⟩] 295,.cells #[.string ⟨#[105,110,118,97,108,105,100,32,115,121,110,116,97,120]⟩] 295],#[],[]⟩
 let put (h:Array Obj) (g:Nat) (cs:Array Value):Array Obj:=h.modify g fun
  | .cells _ t frozen => .cells cs t frozen
  | o=>o
 let h1:=put w0.heap 2 firstCells.toArray
 let h2:=put h1 3 yeS.toArray
 let h3:=put h2 1 pow10Cells
 let h4:=put h3 4 #[.int .u8 0,.int .u8 1,.int .u8 28,.int .u8 2,.int .u8 29,.int .u8 14,.int .u8 24,.int .u8 3,.int .u8 30,.int .u8 22,.int .u8 20,.int .u8 15,.int .u8 25,.int .u8 17,.int .u8 4,.int .u8 8,.int .u8 31,.int .u8 27,.int .u8 13,.int .u8 23,.int .u8 21,.int .u8 19,.int .u8 16,.int .u8 7,.int .u8 26,.int .u8 12,.int .u8 18,.int .u8 6,.int .u8 11,.int .u8 5,.int .u8 10,.int .u8 9]
 let h5:=put h4 5 #[.int .u8 0,.int .u8 1,.int .u8 56,.int .u8 2,.int .u8 57,.int .u8 49,.int .u8 28,.int .u8 3,.int .u8 61,.int .u8 58,.int .u8 42,.int .u8 50,.int .u8 38,.int .u8 29,.int .u8 17,.int .u8 4,.int .u8 62,.int .u8 47,.int .u8 59,.int .u8 36,.int .u8 45,.int .u8 43,.int .u8 51,.int .u8 22,.int .u8 53,.int .u8 39,.int .u8 33,.int .u8 30,.int .u8 24,.int .u8 18,.int .u8 12,.int .u8 5,.int .u8 63,.int .u8 55,.int .u8 48,.int .u8 27,.int .u8 60,.int .u8 41,.int .u8 37,.int .u8 16,.int .u8 46,.int .u8 35,.int .u8 44,.int .u8 21,.int .u8 52,.int .u8 32,.int .u8 23,.int .u8 11,.int .u8 54,.int .u8 26,.int .u8 40,.int .u8 15,.int .u8 34,.int .u8 20,.int .u8 31,.int .u8 10,.int .u8 25,.int .u8 14,.int .u8 19,.int .u8 9,.int .u8 13,.int .u8 8,.int .u8 7,.int .u8 6]
 let h6:=put h5 7 #[.iface 293 (.pointer (some ⟨13,0,none⟩))]
 let h7:=put h6 6 #[.iface 293 (.pointer (some ⟨14,0,none⟩))]
 { w0 with heap:=h7 }
set_option maxRecDepth 100000 in
theorem laid_met (os:Os)(args:Array Value):laidMet Tryz.prog laidAll ((laidWorld os).forCall (λ_ _=>0) ⟨#[],args,[]⟩).memory:=
 (LaidIn.of_run (l:=laidAll) [1,2,3,4,5,6,7,13,14] 8 (by kernel_rfl) (by kernel_rfl) (by kernel_rfl) (by kernel_rfl)).met
theorem getL {α:Type}{a:Array α}{i:Nat}{x:α}(h:a.toList[i]?=some x):a[i]?=some x:=by simpa using h
theorem and_i {a b:Bool}(ha:a=true)(hb:b=true):(a&&b)=true:=by rw[ha,hb];rfl
theorem factLaid:laidOutB Tryz.pinned.checked.prog=true:=by kernel_rfl
theorem factMaps:mapsRowed Tryz.pinned.checked.prog=true:=by kernel_rfl
theorem factHeard:Tryz.pinned.checked.prog.stopsHeard=true:=by kernel_rfl
theorem factEnter:Tryz.pinned.checked.prog.mayEnter=true:=by kernel_rfl
end Go.Proofs.YtdlkpmohjhjmfaaGreatDoor
namespace Go.Proofs.YtdlkpmohjhjmfaaGreatDoor
open Go Go.Va Go.Proofs
abbrev H16:ByteArray:=⟨#[48,49,50,51,52,53,54,55,56,57,97,98,99,100,101,102]⟩
def hex2 (x:Int):List Int:=[bt H16 (x/16),bt H16 (x%16)]
def hexL (b:List Int):List Int:=b.flatMap hex2
theorem hexL_len (b:List Int):(hexL b).length=b.length*2:=by
 unfold hexL
 induction b with
 | nil=>rfl
 | cons x b ih=>rw[List.flatMap_cons,List.length_append,ih,List.length_cons];change 2+_=_;omega
theorem flat2_len (b:List Int):(b.flatMap hex2).length=b.length*2:=hexL_len b
theorem alpha_Hex {n:Nat}(hn2:n≤536870912){b:List Int}(hb:BB n b):ydf.f n b=some (yaT (hexL b),()):=by
 have hlen:=hb.len
 have:=yeZ (l:=b) 0 hex2 70368744177664 (λm k L=>ydf.J1 n m (L,b,((b.length:Nat):Int),k,())) (λL=>some (yaT L,()))
  (λm k L hk hL=>by
   try dsimp only
   obtain⟨q1,q2⟩:=hb.byte _ (yc5 (d:=(0:Int)) hk)
   rw[ydf.e1,yap,decide_eq_true (by omega),yaq,yar ⟨by omega,by omega⟩,Int.toNat_natCast]
   generalize b.getD k 0=x at q1 q2 hL ⊢
   have e1:shrI .u8 x 4=x/16:=shr_eq (k := .u8) (y:=4) (by decide)
   have e2:bitI .and .u8 x 15=x%16:=and_mask (k := .u8) (w:=4) q1 (by change x<256;omega) (by decide)
   have h16:((H16.size:Nat):Int)=16:=rfl
   change L.length+2≤_ at hL
   rw[yew (by decide),e1,e2,yar (show 0≤x/16∧x/16<((H16.size:Nat):Int) by omega),yar (show 0≤x%16∧x%16<((H16.size:Nat):Int) by omega),yar (by omega),ybp k (by omega)]
   rfl)
  (λm L hL=>by
   try dsimp only
   rw[ydf.e1,yap,decide_eq_false (by omega),yaj,ydf.e2]) n 0 [] (by omega) (by omega) (by rw[List.drop_zero,flat2_len,List.length_nil];omega)
 try dsimp only at this
 rw[show ((0:Nat):Int)=0 from rfl,List.drop_zero,List.nil_append]at this
 rw[ydf.e0,yb6 (by omega),yar ⟨by decide,by omega,by omega,by decide,by decide⟩,this]
 rfl
theorem ref04_Hex {n:Nat}(hn2:n≤536870912){b:List Int}(hb:BB n b):yd7.f n b=some (yaT (hexL b),()):=by
 have hlen:=hb.len
 have:=yeZ (l:=b) 0 hex2 70368744177664 (λm k L=>yd7.J1 n m (b,H16,yaT L,k,())) (λL=>some (yaT L,()))
  (λm k L hk hL=>by
   try dsimp only
   obtain⟨q1,q2⟩:=hb.byte _ (yc5 (d:=(0:Int)) hk)
   have hi:0≤(k:Int)∧(k:Int)<((b.length:Nat):Int):=⟨by omega,by omega⟩
   rw[yd7.e1,yap,decide_eq_true (by omega),yaq,Int.toNat_natCast]
   generalize b.getD k 0=x at q1 q2 hL ⊢
   change L.length+2≤_ at hL
   have e1:Int.tdiv x 16=x/16:=Int.tdiv_eq_ediv_of_nonneg q1
   have e2:Int.tmod x 16=x%16:=Int.tmod_eq_emod_of_nonneg q1
   have h16:H16.size=16:=rfl
   rw[e1,e2]
   rw[wrap_u8 (x:=x/16) (by omega),wrap_u8 (x:=x/16+1) (by omega),wrap_u8 (x:=x%16+1) (by omega)]
   have ex:∀ y:Int,0≤y→y<16→H16.extract y.toNat (y+1).toNat=yaT [bt H16 y]:=by
    intro y h0 h1
    rw[show (y+1).toNat=y.toNat+1 by omega,extract_one (by omega),show ((y.toNat:Nat):Int)=y by omega]
   rw[ex (x/16) (by omega) (by omega),ex (x%16) (by omega) (by omega)]
   have g0:∀ {α:Type} (z:Option α),gNo ((16:Int)=0) z=z:=λz=>yew (by decide) z
   simp only[yar hi,g0]
   rw[yar ⟨by omega,by omega⟩,yar ⟨by omega,by omega⟩,yar ⟨by omega,by omega⟩,yar ⟨by omega,by omega⟩]
   rw[yar (by rw[yah,yah];simp),← yaE]
   rw[yar (by rw[yah,yah];simp;omega),← yaE,ybp k (by omega)]
   rfl)
  (λm L hL=>by
   try dsimp only
   rw[yd7.e1,yap,decide_eq_false (by omega),yaj,yd7.e2]) n 0 [] (by omega) (by omega) (by rw[List.drop_zero,flat2_len,List.length_nil];omega)
 try dsimp only at this
 rw[show ((0:Nat):Int)=0 from rfl,List.drop_zero,List.nil_append]at this
 rw[yd7.e0]
 exact this
def dd (u:Nat):ByteArray:=⟨(Lib.decDigits u).toArray⟩
theorem dd_small {u:Nat}(h:u<10):dd u=yaT [48+(u:Int)]:=by
 unfold dd
 rw[Lib.decDigits,dif_pos h]
 have:∀ u:Nat,u<10→(⟨[UInt8.ofNat (48+u)].toArray⟩:ByteArray)=yaT [48+(u:Int)]:=by decide +kernel
 exact this u h
theorem dd_step {u:Nat}(h:¬ u<10):dd u=dd (u/10)++yaT [48+((u%10:Nat):Int)]:=by
 unfold dd
 rw[Lib.decDigits,dif_neg h]
 have:∀ u:Nat,u<10→yaT [48+(u:Int)]=(⟨[UInt8.ofNat (48+u)].toArray⟩:ByteArray):=by decide +kernel
 rw[this _ (Nat.mod_lt _ (by decide))]
 apply ByteArray.ext
 simp
theorem dd_len {u k:Nat}(h:u<10 ^ (k+1)):(dd u).size≤k+1:=by
 induction k generalizing u with
 | zero=>rw[dd_small (by simpa using h),yah];exact Nat.le_refl 1
 | succ k ih=>
  by_cases h1:u<10
  ·rw[dd_small h1,yah,List.length_singleton];omega
  ·rw[dd_step h1,ByteArray.size_append,yah,List.length_singleton]
   have:=ih (u:=u/10) (Nat.div_lt_of_lt_mul (by rw[Nat.mul_comm,← Nat.pow_succ];exact h))
   omega
theorem dig1 (u:Nat):IntKind.u8.wrap (IntKind.u64.wrap ((48:Int)+(Int.tmod (u:Int) 10)))=48+((u%10:Nat):Int):=by
 have e:Int.tmod (u:Int) 10=((u%10:Nat):Int):=rfl
 rw[e,ydD (by omega),wrap_u8 (by omega)]
theorem digits_J {n:Nat}:∀ (m u:Nat) (s:ByteArray),u<10 ^ (m+1)→u<18446744073709551616→s.size+m≤4000000000 →
  yda.J1 n (m+1) ((u:Int),s,())=some (if u<10 then s else dd (u/10)++s,())
 | m,u,s,h,h2,hs=>by
  rw[yda.e1,yap]
  by_cases h1:u<10
  ·rw[decide_eq_false (by omega),yaj,yda.e2,if_pos h1]
  ·rw[decide_eq_true (by omega),yaq,yew (by decide),yew (by decide),if_neg h1]
   have e:Int.tdiv (u:Int) 10=((u/10:Nat):Int):=rfl
   rw[e,ydD (x:=((u/10:Nat):Int)) (by omega),dig1,yar (by rw[yah,List.length_singleton];omega)]
   cases m with
   | zero=>exact absurd h (by omega)
   | succ m=>
    have hd:u/10<10 ^ (m+1):=Nat.div_lt_of_lt_mul (by rw[Nat.mul_comm,← Nat.pow_succ];exact h)
    rw[digits_J m (u/10) _ hd (by omega) (by rw[ByteArray.size_append,yah,List.length_singleton];omega)]
    by_cases h3:u/10<10
    ·rw[if_pos h3,dd_small h3,Nat.mod_eq_of_lt h3]
    ·rw[if_neg h3,dd_step h3,ByteArray.append_assoc]
theorem law_digits {n:Nat}(hn:20≤n)(hn2:n≤536870912){u:Nat}(h:u<18446744073709551616):yda.f n (u:Int)=some (dd u,()):=by
 obtain⟨m,rfl⟩:∃ m,n=m+1:=⟨n-1,by omega⟩
 have h10:u<10 ^ (m+1):=Nat.lt_of_lt_of_le (show u<10 ^ 20 by omega) (Nat.pow_le_pow_right (by decide) hn)
 rw[yda.e0,yew (by decide),dig1,digits_J m u _ h10 h (by rw[yah,List.length_singleton];omega)]
 by_cases h1:u<10
 ·rw[if_pos h1,dd_small h1,Nat.mod_eq_of_lt h1]
 ·rw[if_neg h1,dd_step h1]
theorem itoaB_pos {x:Int}(h:0≤x):itoaB x=dd x.toNat:=by
 unfold itoaB Lib.itoa dd
 rw[if_neg (by omega)]
theorem itoaB_neg {x:Int}(h:x<0):itoaB x=⟨#[45]⟩++dd x.natAbs:=by
 unfold itoaB Lib.itoa dd
 rw[if_pos h]
 apply ByteArray.ext
 simp
theorem ycA {x:Int}(h:I64 x):(itoaB x).size≤21:=by
 obtain⟨h1,h2⟩:=h
 by_cases h0:0≤x
 ·rw[itoaB_pos h0]
  have:=dd_len (u:=x.toNat) (k:=19) (by omega)
  omega
 ·rw[itoaB_neg (by omega),ByteArray.size_append]
  have:=dd_len (u:=x.natAbs) (k:=19) (by omega)
  change 1+_≤21
  omega
theorem law_number {n:Nat}(hn:20≤n)(hn2:n≤536870912){x:Int}(h:I64 x):yc9.f n x=some (itoaB x,()):=by
 obtain⟨h1,h2⟩:=h
 rw[yc9.e0,yap]
 by_cases h0:0≤x
 ·rw[decide_eq_true h0,yaq,ydD (by omega)]
  have:=law_digits hn hn2 (u:=x.toNat) (by omega)
  rw[show ((x.toNat:Nat):Int)=x by omega]at this
  rw[this,yab,itoaB_pos h0]
 ·rw[decide_eq_false h0,yaj,yb6 (x:=x+1) (by omega),yb6 (x:=0-(x+1)) (by omega),ydD (x:=0-(x+1)) (by omega),ydD (by omega)]
  have:=law_digits hn hn2 (u:=x.natAbs) (by omega)
  rw[show ((x.natAbs:Nat):Int)=0-(x+1)+1 by omega]at this
  have hl:=dd_len (u:=x.natAbs) (k:=19) (by omega)
  rw[this,yab,yar (by change 1+(dd x.natAbs).size≤4611686018427387904;omega),itoaB_neg (by omega)]
end Go.Proofs.YtdlkpmohjhjmfaaGreatDoor
namespace Go.Proofs.YtdlkpmohjhjmfaaGreatDoor
open Go Go.Va Go.Proofs
abbrev okB:ByteArray:=⟨#[111,107,32]⟩
abbrev errB:ByteArray:=⟨#[101,114,114,111,114,32]⟩
noncomputable def replyS (r:RP):ByteArray:=if r.1=0∧(tellS r).2=0 then okB++yaT (hexL (tellS r).1) else errB++itoaB r.1
theorem tell_BB {n:Nat}(hn:300000≤n){r:RP}(hi:RI n r)(h:(tellS r).2=0):BB n (tellS r).1:=by
 obtain⟨hg,h1⟩:=tellS_ok h
 rw[h1]
 exact⟨by have:=encRP_len hg hi;omega,BY_RP hi⟩
theorem itoa_ok {x:Int}(h:I64 x):ydl.f x=some (itoaB x,()):=by
 unfold ydl.f
 obtain⟨h1,h2⟩:=h
 rw[if_pos ⟨by omega,by omega⟩]
theorem fmt_ok {x:Int}(h:I64 x):ydt.f x 10=some (itoaB x,()):=by
 unfold ydt.f
 obtain⟨h1,h2⟩:=h
 rw[if_pos ⟨rfl,by omega,by omega⟩]
theorem script_Reply {n:Nat}(hn:300000≤n)(hn2:n≤536870912){r:RP}(hi:RI n r)(he:I64 r.1):ycO.f n r=some (replyS r,()):=by
 have h2:ycO.J2 n (r,())=some (errB++itoaB r.1,()):=by
  have:=ycA he
  rw[ycO.e2,itoa_ok he,yab,yar (by change 6+(itoaB r.1).size≤4611686018427387904;omega)]
 rw[ycO.e0,wire_Tell (by omega) hn2 hi,yab,yap,yap]
 unfold replyS
 by_cases h0:r.1=0
 ·rw[show (r.1==0)=true from beq_iff_eq.2 h0,yaq,ycO.e1]
  by_cases h:(tellS r).2=0
  ·have hb:=tell_BB hn hi h
   have hl:=hb.len
   rw[show ((tellS r).2==0)=true from beq_iff_eq.2 h,yaq,alpha_Hex hn2 hb,yab,yar (by change 3+(yaT (hexL (tellS r).1)).size≤4611686018427387904;rw[yah,hexL_len];omega),if_pos ⟨h0,h⟩]
  ·rw[show ((tellS r).2==0)=false from beq_eq_false_iff_ne.2 h,yaj,h2,if_neg (λhh=>h hh.2)]
 ·rw[show (r.1==0)=false from beq_eq_false_iff_ne.2 h0,yaj,ycO.e1,yaj,h2,if_neg (λhh=>h0 hh.1)]
abbrev Act:Type:=yaW
abbrev qZ:Q:=hdQ 0 ⟨#[]⟩ ⟨#[]⟩
abbrev actZ (k:Int):Act:=(k,(qZ,(0,(0,([],())))))
theorem itoa1 (u:Nat)(h:u<10):itoaB (u:Int)=yaT [48+(u:Int)]:=by
 rw[itoaB_pos (by omega),Int.toNat_natCast,dd_small h]
theorem QB_z {n:Nat}(h:300≤n):QB n qZ:=by
 have h0:0<n:=by omega
 exact (mkQ (by change 0<n;omega) (by change 0<n;omega) h0 U64_0 ⟨h0,ydZ⟩ ⟨h0,by intro t ht;exact nomatch ht⟩ I64_0 ⟨h0,by intro t ht;exact nomatch ht⟩ ⟨h0,by intro t ht;exact nomatch ht⟩ ⟨Nat.zero_le 16,by intro t ht;exact nomatch ht⟩ h0 h0 h0 h0 h0 U64_0 h:bdQ n qZ).1
noncomputable def numsOk (l:List ByteArray):Bool:=l.all λs=>(numB s).2
noncomputable def numsV (l:List ByteArray):List Int:=l.map λs=>(numB s).1
theorem numbers_J {n:Nat}(hn2:n≤536870912){w:List ByteArray}(hlen:w.length<n)(hs:∀ s∈w,s.size≤281474976710656):∀ (m k:Nat) (out:List Int),k≤w.length→w.length-k<m→out.length=k →
  ycL.J1 n m (out,w,((w.length:Nat):Int),(k:Int),())=if numsOk (w.drop k)=true then some (out++numsV (w.drop k),true,()) else some ([],false,())
 | 0,k,out,_,h,_=>by omega
 | m+1,k,out,hk,h,ho=>by
  rw[ycL.e1,yap]
  by_cases hlt:k<w.length
  ·have hd:w.drop k=w.getD k ⟨#[]⟩::w.drop (k+1):=by
    rw[List.drop_eq_getElem_cons hlt,List.getD_eq_getElem?_getD,List.getElem?_eq_getElem hlt];rfl
   have hsz:=hs _ (yc5 (d:=(⟨#[]⟩:ByteArray)) hlt)
   rw[decide_eq_true (by omega),yaq,yar ⟨by omega,by omega⟩,Int.toNat_natCast,hd]
   generalize w.getD k ⟨#[]⟩=s at hsz ⊢
   unfold ye8.f
   rw[if_pos hsz,yab]
   try dsimp only
   unfold numsOk numsV
   rw[List.all_cons,List.map_cons]
   cases hb:(numB s).2
   ·rw[Bool.not_false,yaq,Bool.false_and,if_neg (by simp)]
   ·rw[Bool.not_true,yaj,yar (by omega),ybp k (by omega),numbers_J hn2 hlen hs m (k+1) _ (by omega) (by omega) (by rw[List.length_append,List.length_singleton];omega),Bool.true_and]
    unfold numsOk numsV
    rw[List.append_assoc];rfl
  ·rw[decide_eq_false (by omega),yaj,ycL.e2,List.drop_eq_nil_of_le (by omega)]
   have:numsOk []=true:=rfl
   rw[if_pos this]
   unfold numsV
   rw[List.map_nil,List.append_nil]
theorem script_numbers {n:Nat}(hn2:n≤536870912){w:List ByteArray}(hlen:w.length<n)(hs:∀ s∈w,s.size≤281474976710656):ycL.f n w=if numsOk w=true then some (numsV w,true,()) else some ([],false,()):=by
 have:=numbers_J hn2 hlen hs n 0 [] (by omega) (by omega) rfl
 rw[ycL.e0]
 exact this
theorem crash_J {n:Nat}(hn2:n≤536870912){l:List Int}(hlen:l.length<n)(z:Act)(x y:Int):∀ (m k:Nat) (out:List Int),k≤l.length→l.length-k<m→out.length=k →
  ycr.J3 n m (l,((l.length:Nat):Int),(k:Int),z,(8,(qZ,(x,(y,(out,()))))),())=some ((8,(qZ,(x,(y,(out++l.drop k,()))))),true,())
 | 0,k,out,_,h,_=>by omega
 | m+1,k,out,hk,h,ho=>by
  rw[ycr.e3,yap]
  by_cases hlt:k<l.length
  ·have hd:l.drop k=l.getD k 0::l.drop (k+1):=by
    rw[List.drop_eq_getElem_cons hlt,List.getD_eq_getElem?_getD,List.getElem?_eq_getElem hlt];rfl
   rw[decide_eq_true (by omega),yaq,yar ⟨by omega,by omega⟩,Int.toNat_natCast,hd]
   try dsimp only
   rw[yar (by omega),ybp k (by omega)]
   have:=crash_J hn2 hlen z x y m (k+1) (out++[l.getD k 0]) (by omega) (by omega) (by rw[List.length_append,List.length_singleton];omega)
   rw[List.append_assoc]at this
   exact this
  ·rw[decide_eq_false (by omega),yaj,ycr.e4,List.drop_eq_nil_of_le (by omega),List.append_nil]
noncomputable def crashS (l:List Int):Act×Bool:=if l.length<2∨l.getD 1 0<0∨l.getD 1 0>255 then (actZ 0,false) else ((8,(qZ,(l.getD 1 0,(l.getD 0 0,(l.drop 2,()))))),true)
theorem script_crash {n:Nat}(hn2:n≤536870912){l:List Int}(hlen:l.length<n):ycr.f n l=some ((crashS l).1,(crashS l).2,()):=by
 rw[ycr.e0,yap]
 unfold crashS
 by_cases h1:l.length<2
 ·rw[decide_eq_true (by omega),yaq,ycr.e1,yaq,if_pos (.inl h1)]
 ·rw[decide_eq_false (by omega),yaj,yar ⟨by omega,by omega⟩,yap]
  by_cases h2:l.getD 1 0<0
  ·rw[decide_eq_true h2,yaq,ycr.e1,yaq,if_pos (.inr (.inl h2))]
  ·rw[decide_eq_false h2,yaj,yar ⟨by omega,by omega⟩,yap,ycr.e1]
   by_cases h3:l.getD 1 0>255
   ·rw[decide_eq_true h3,yaq,if_pos (.inr (.inr h3))]
   ·rw[decide_eq_false h3,yaj,if_neg (by rintro (h | h | h)<;>omega),ycr.e2,yar ⟨by omega,by omega⟩,yar ⟨by omega,by omega⟩,yar ⟨by omega,by omega⟩,yar ⟨by omega,by omega⟩,Int.toNat_natCast,List.take_length]
    have:=crash_J hn2 (l:=l.drop 2) (by rw[List.length_drop];omega) (actZ 0) (l.getD 1 0) (l.getD 0 0) n 0 [] (by omega) (by rw[List.length_drop];omega) rfl
    rw[List.drop_zero,List.nil_append]at this
    exact this
abbrev lineA:ByteArray:=⟨#[99,114,97,115,104,32,49,32,53,32,50,32,48]⟩
theorem numB_d {s:ByteArray}{v:Int}(h1:Lib.parseIntB 64 s.data.toList = .ok v)(h2:itoaB v=s):numB s=(v,true):=by
 unfold numB
 rw[h1]
 try dsimp only
 rw[h2,ybF]
theorem actA {n:Nat}(hn:300≤n)(hn2:n≤536870912):ybt.f n lineA=some ((8,(qZ,(5,(1,([2,0],()))))),0,()):=by
 have hs:yb8.f lineA ⟨#[32]⟩=some ([⟨#[99,114,97,115,104]⟩,⟨#[49]⟩,⟨#[53]⟩,⟨#[50]⟩,⟨#[48]⟩],()):=by
  unfold yb8.f
  rw[if_pos ⟨by decide,by decide⟩,show Lib.splitB ⟨#[32]⟩ 0 (Lib.countB lineA ⟨#[32]⟩) lineA=[⟨#[99,114,97,115,104]⟩,⟨#[49]⟩,⟨#[53]⟩,⟨#[50]⟩,⟨#[48]⟩] by kernel_rfl]
 have n1:numB ⟨#[49]⟩=(1,true):=numB_d (by kernel_rfl) (itoa1 1 (by decide))
 have n5:numB ⟨#[53]⟩=(5,true):=numB_d (by kernel_rfl) (itoa1 5 (by decide))
 have n2:numB ⟨#[50]⟩=(2,true):=numB_d (by kernel_rfl) (itoa1 2 (by decide))
 have n0:numB ⟨#[48]⟩=(0,true):=numB_d (by kernel_rfl) (itoa1 0 (by decide))
 have ho:numsOk [⟨#[49]⟩,⟨#[53]⟩,⟨#[50]⟩,⟨#[48]⟩]=true:=by
  unfold numsOk
  simp only[List.all_cons,List.all_nil,n1,n5,n2,n0,Bool.and_self]
 have hv:numsV [⟨#[49]⟩,⟨#[53]⟩,⟨#[50]⟩,⟨#[48]⟩]=[1,5,2,0]:=by
  unfold numsV
  simp only[List.map_cons,List.map_nil,n1,n5,n2,n0]
 have hnum:=script_numbers hn2 (n:=n) (w:=[⟨#[49]⟩,⟨#[53]⟩,⟨#[50]⟩,⟨#[48]⟩]) (by change 4<n;omega) (by intro s hs;simp at hs;rcases hs with rfl | rfl | rfl | rfl<;>decide)
 rw[if_pos ho,hv]at hnum
 have hcr:=script_crash hn2 (n:=n) (l:=[1,5,2,0]) (by change 4<n;omega)
 have hread:ybg.f n [⟨#[99,114,97,115,104]⟩,⟨#[49]⟩,⟨#[53]⟩,⟨#[50]⟩,⟨#[48]⟩]=some ((8,(qZ,(5,(1,([2,0],()))))),true,()):=by
  rw[ybg.e0]
  unfold ydS.f
  rw[yab,yar ⟨by decide,by decide⟩]
  change bIf (smGet wordsL ⟨#[99,114,97,115,104]⟩).2 _ _=_
  rw[show (smGet wordsL ⟨#[99,114,97,115,104]⟩).2=false by decide +kernel,yaj,yar ⟨by decide,by decide⟩,yap]
  change bIf (eqS ⟨#[99,114,97,115,104]⟩ ⟨#[97,115,107]⟩) _ _=_
  rw[show eqS ⟨#[99,114,97,115,104]⟩ ⟨#[97,115,107]⟩=false by decide +kernel,yaj,ybg.e1,yaj,ybg.e2,yar ⟨by decide,by decide⟩,yar ⟨by decide,by decide⟩]
  change bnd (ycL.f n [⟨#[49]⟩,⟨#[53]⟩,⟨#[50]⟩,⟨#[48]⟩]) _=_
  rw[hnum,yab,Bool.not_true,yaj,yar ⟨by decide,by decide⟩,yap]
  change bIf (eqS ⟨#[99,114,97,115,104]⟩ ⟨#[99,114,97,115,104]⟩) _ _=_
  rw[ybF,yaq]
  change bnd (ycr.f n [1,5,2,0]) _=_
  rw[hcr,yab]
  unfold crashS
  rw[if_neg (by decide)]
  rfl
 rw[ybt.e0,hs,yab]
 change bnd (ybg.f n [⟨#[99,114,97,115,104]⟩,⟨#[49]⟩,⟨#[53]⟩,⟨#[50]⟩,⟨#[48]⟩]) _=_
 rw[hread,yab]
 rfl
end Go.Proofs.YtdlkpmohjhjmfaaGreatDoor
namespace Go.Proofs.YtdlkpmohjhjmfaaGreatDoor
open Go Go.Va Go.Proofs
def bareB (a:Act):Bool:=sameQ a.2.1 qZ&&((a.2.2.1==0)&&((a.2.2.2.1==0)&&(((a.2.2.2.2.1.length:Nat):Int)==0)))
theorem script_bare {n:Nat}(h3:300≤n)(hn2:n≤536870912){a:Act}(ha:QB n a.2.1):ycT.f n a=some (bareB a,()):=by
 rw[ycT.e0]
 change (bnd (yd4.f n a.2.1 qZ) _)=_
 rw[wire_Same h3 hn2 ha]
 simp only[yaJ,bnd_s,yck]
 rfl
theorem sameQ_z:sameQ qZ qZ=true:=by decide +kernel
theorem lineB {n:Nat}(hn:300≤n)(hn2:n≤536870912):ybZ.f n (3,(qZ,(-5,(0,([],())))))=some (⟨#[99,108,111,99,107,32,45,53]⟩,0,()):=by
 have h5:itoaB (-5)=⟨#[45,53]⟩:=by
  rw[itoaB_neg (by decide),show (-5:Int).natAbs=5 from rfl,dd_small (by decide)]
  decide +kernel
 have hl:ycH.f n (3,(qZ,(-5,(0,([],())))))=some ([⟨#[99,108,111,99,107]⟩,⟨#[45,53]⟩],true,()):=by
  rw[ycH.e0]
  simp only[yaJ]
  rw[show ((3:Int)==2)=false from rfl,bIf_f,show ((3:Int)==3)=true from rfl,bIf_t,fmt_ok (by unfold I64;decide),bnd_s]
  change (bnd (ycT.f n (3,(qZ,(0,(0,([],())))))) _)=_
  rw[script_bare hn hn2 (QB_z hn),bnd_s,h5]
  try dsimp only
  rw[show bareB (3,(qZ,(0,(0,([],())))))=true by decide +kernel]
 rw[ybZ.e0,hl,yab,Bool.not_true,yaj]
 unfold yeX.f
 have hj:joinB [⟨#[99,108,111,99,107]⟩,⟨#[45,53]⟩] ⟨#[32]⟩=[99,108,111,99,107,32,45,53]:=by decide +kernel
 try dsimp only
 rw[hj,if_pos ⟨by decide,by decide⟩,yab]
theorem act_word {n:Nat}{s:ByteArray}{k:Int}(h1:s.size<4294967281)(h2:Lib.splitB ⟨#[32]⟩ 0 (Lib.countB s ⟨#[32]⟩) s=[s])(h3:smGet wordsL s=(k,true)):ybt.f n s=some (actZ k,0,()):=by
 have hs:yb8.f s ⟨#[32]⟩=some ([s],()):=by
  unfold yb8.f
  rw[if_pos ⟨h1,by decide⟩,h2]
 have hr:ybg.f n [s]=some (actZ k,true,()):=by
  rw[ybg.e0]
  unfold ydS.f
  rw[yab,yar ⟨by decide,by change (0:Int)<1;decide⟩]
  change bIf (smGet wordsL s).2 (some (((smGet wordsL s).1,_),hide _,())) _=_
  rw[h3,yaq,yap]
  rfl
 rw[ybt.e0,hs,yab]
 change bnd (ybg.f n [s]) _=_
 rw[hr,yab]
 rfl
abbrev openB:ByteArray:=⟨#[111,112,101,110]⟩
abbrev sweepB:ByteArray:=⟨#[115,119,101,101,112]⟩
abbrev textB:ByteArray:=⟨#[111,112,101,110,10,115,119,101,101,112]⟩
theorem actsB {n:Nat}(hn:300≤n):ybx.f n textB=some ([actZ 1,actZ 4],0,0,()):=by
 have c1:ydU.f textB ⟨#[10]⟩=some (openB,sweepB,true,()):=by
  unfold ydU.f
  rw[if_pos (by decide),show Lib.cut textB.data.toList (⟨#[10]⟩:ByteArray).data.toList=([111,112,101,110],[115,119,101,101,112],true) by kernel_rfl]
 have c2:ydU.f sweepB ⟨#[10]⟩=some (sweepB,⟨#[]⟩,false,()):=by
  unfold ydU.f
  rw[if_pos (by decide),show Lib.cut sweepB.data.toList (⟨#[10]⟩:ByteArray).data.toList=([115,119,101,101,112],[],false) by kernel_rfl]
 have a1:ybt.f n openB=some (actZ 1,0,()):=act_word (by decide) (by kernel_rfl) (by decide +kernel)
 have a2:ybt.f n sweepB=some (actZ 4,0,()):=act_word (by decide) (by kernel_rfl) (by decide +kernel)
 have key:∀ m,ybx.J1 n (m+3) (textB,[],1,())=some ([actZ 1,actZ 4],0,0,()):=by
  intro m
  rw[ybx.e1,yap,show (!eqS textB ⟨#[]⟩)=true by decide +kernel,yaq,c1,yab]
  try dsimp only
  rw[a1,yab,yap]
  try dsimp only
  rw[show ((0:Int) != 0)=false from rfl,yaj,yar (by decide),ybx.e1,yap,show (!eqS sweepB ⟨#[]⟩)=true by decide +kernel,yaq,c2,yab]
  try dsimp only
  rw[a2,yab,yap]
  try dsimp only
  rw[show ((0:Int) != 0)=false from rfl,yaj,yar (by decide),ybx.e1,yap,show (!eqS ⟨#[]⟩ ⟨#[]⟩)=false by decide +kernel,yaj,ybx.e2,yap,decide_eq_false (by decide),yaj]
  rfl
 rw[ybx.e0,yap,decide_eq_false (by decide),yaj]
 have h3:=key (n-3)
 rw[show n-3+3=n by omega]at h3
 exact h3
theorem awakeS {n:Nat}(hn:300000≤n)(hn2:n≤536870912):ydR.f n=some (true,()):=by
 have hr:=script_Reply hn hn2 (RI_err (n:=n) (by omega) 7) (by unfold I64;decide)
 have h7:replyS (errRP 7)=⟨#[101,114,114,111,114,32,55]⟩:=by
  unfold replyS
  rw[if_neg (by intro h;exact absurd h.1 (by decide))]
  change errB++itoaB ((7:Nat):Int)=_
  rw[itoa1 7 (by decide)]
  decide +kernel
 rw[h7]at hr
 rw[ydR.e0]
 change (bnd (ybt.f n lineA) λu1=>bnd (ybZ.f n (3,(qZ,(-5,(0,([],())))))) λu2=>bnd (ybx.f n textB) _)=_
 rw[actA (by omega) hn2,yab,lineB (by omega) hn2,yab,actsB (by omega),yab]
 simp only[yaJ]
 try dsimp only
 rw[show ((0:Int)==0)=true from rfl,yaq,yaq,yaq,yaq,show ((1:Int)==1)=true from rfl,yaq,show ((5:Int)==5)=true from rfl,yaq]
 rw[show ((((([2,0]:List Int).length:Nat):Int))==2)=true from rfl,yaq,ybF,yaq,show ((((([actZ 1,actZ 4]:List Act).length:Nat):Int))==2)=true from rfl,yaq]
 change (bnd (ycO.f n (errRP 7)) _)=_
 rw[hr,yab]
 try dsimp only
 rw[ybF]
end Go.Proofs.YtdlkpmohjhjmfaaGreatDoor
namespace Go.Proofs.YtdlkpmohjhjmfaaGreatDoor
open Go Go.Va Go.Proofs
structure AI (n:Nat)(a:Act):Prop where
 q:bdQ n a.2.1
 t:I64 a.2.2.1
 m:I64 a.2.2.2.1
 len:a.2.2.2.2.1.length+2<n
 ks:∀ x∈a.2.2.2.2.1,I64 x
theorem law_bare {n:Nat}(h3:300≤n)(hn2:n≤536870912){a:Act}(ha:QB n a.2.1):yc4.f n a=some (bareB a,()):=by
 rw[yc4.e0]
 change (bnd (yb2.f n a.2.1 qZ) _)=_
 rw[ref26_Same h3 hn2 ha]
 simp only[yaJ,bnd_s,yck]
 rfl
abbrev askW:ByteArray:=⟨#[97,115,107]⟩
abbrev clockW:ByteArray:=⟨#[99,108,111,99,107]⟩
abbrev failW:ByteArray:=⟨#[102,97,105,108]⟩
abbrev yfB:ByteArray:=⟨#[99,114,97,115,104]⟩
abbrev xB:ByteArray:=⟨#[120]⟩
abbrev spB:ByteArray:=⟨#[32]⟩
noncomputable def linS (a:Act):List ByteArray×Bool:=
 if a.1=2 then ([askW,xB++yaT (hexL (askS a.2.1).1)],((askS a.2.1).2==0)&&bareB (a.1,(qZ,a.2.2)))
 else if a.1=3 then ([clockW,itoaB a.2.2.1],bareB (a.1,(a.2.1,(0,a.2.2.2))))
 else if a.1=7 then ([failW,itoaB a.2.2.2.1],bareB (a.1,(a.2.1,(a.2.2.1,(0,a.2.2.2.2)))))
 else if a.1=8 then (yfB::itoaB a.2.2.2.1::itoaB a.2.2.1::a.2.2.2.2.1.map itoaB,bareB (a.1,(a.2.1,(0,(0,([],a.2.2.2.2.2)))))&&(decide (a.2.2.1≥0)&&decide (a.2.2.1≤255)))
 else ([wordB a.1],(!eqS (wordB a.1) ⟨#[]⟩)&&bareB a)
theorem ask_BB {n:Nat}(hn:30000≤n)(e:Q):BB n (askS e).1:=by
 unfold askS
 cases hg:goodQ e
 ·exact BB_nil (by omega)
 ·exact⟨by have:=encQ_len (sndQ_of hg);change (encQ e).length<n;omega,BY_Q e⟩
theorem bIf_nest (c d e:Bool){α:Type}(x:α):bIf c (bIf d (some (x,e,())) (some (x,false,()))) (some (x,false,()))=some (x,c&&(d&&e),()):=by
 cases c<;>cases d<;>simp[ydC]
theorem line_J {n:Nat}(hn2:n≤536870912){l:List Int}(hlen:l.length<n)(hk:∀ x∈l,I64 x)(a b:Act):∀ (m k:Nat) (out:List ByteArray),k≤l.length→l.length-k<m→out.length=k+3 →
  ycH.J1 n m (out,l,((l.length:Nat):Int),(k:Int),a,b,())=ycH.J2 n (out++(l.drop k).map itoaB,a,b,())
 | 0,k,out,_,h,_=>by omega
 | m+1,k,out,hkl,h,ho=>by
  rw[ycH.e1,yap]
  by_cases hlt:k<l.length
  ·have hd:l.drop k=l.getD k 0::l.drop (k+1):=by
    rw[List.drop_eq_getElem_cons hlt,List.getD_eq_getElem?_getD,List.getElem?_eq_getElem hlt];rfl
   rw[decide_eq_true (by omega),yaq,yar ⟨by omega,by omega⟩,Int.toNat_natCast,itoa_ok (hk _ (yc5 (d:=(0:Int)) hlt)),yab,hd]
   try dsimp only
   rw[yar (by omega),ybp k (by omega)]
   have:=line_J hn2 hlen hk a b m (k+1) (out++[itoaB (l.getD k 0)]) (by omega) (by omega) (by rw[List.length_append,List.length_singleton];omega)
   rw[List.append_assoc]at this
   exact this
  ·rw[decide_eq_false (by omega),yaj,List.drop_eq_nil_of_le (by omega),List.map_nil,List.append_nil]
theorem script_line {n:Nat}(hn:300000≤n)(hn2:n≤536870912){a:Act}(ha:AI n a):ycH.f n a=some ((linS a).1,(linS a).2,()):=by
 rw[ycH.e0]
 unfold linS
 have hz:QB n qZ:=QB_z (by omega)
 by_cases h2:a.1=2
 ·rw[show (a.1==2)=true from beq_iff_eq.2 h2,yap,yaq,if_pos h2,wire_Ask (by omega) hn2 ha.q.1 ha.q.2.1,yab]
  have hb:=ask_BB (n:=n) (by omega) a.2.1
  have hl:=hb.len
  try dsimp only
  rw[alpha_Hex hn2 hb,yab,yar (by change 1+(yaT (hexL (askS a.2.1).1)).size≤4611686018427387904;rw[yah,hexL_len];omega)]
  change bIf _ (bnd (ycT.f n (a.1,(qZ,a.2.2))) _) _=_
  rw[script_bare (a:=(a.1,(qZ,a.2.2))) (by omega) hn2 hz,yab,yaJ]
  cases ((askS a.2.1).2==0)<;>simp[ydC]
 ·rw [show (a.1==2)=false from beq_eq_false_iff_ne.2 h2,yaJ,yaj,if_neg h2]
  by_cases h3:a.1=3
  ·rw[show (a.1==3)=true from beq_iff_eq.2 h3,yap,yaq,if_pos h3,fmt_ok ha.t,yab,script_bare (a:=(a.1,(a.2.1,(0,a.2.2.2)))) (by omega) hn2 ha.q.1,yab]
  ·rw[show (a.1==3)=false from beq_eq_false_iff_ne.2 h3,yaJ,yaj,if_neg h3]
   by_cases h7:a.1=7
   ·rw[show (a.1==7)=true from beq_iff_eq.2 h7,yap,yaq,if_pos h7,itoa_ok ha.m,yab,script_bare (a:=(a.1,(a.2.1,(a.2.2.1,(0,a.2.2.2.2))))) (by omega) hn2 ha.q.1,yab]
   ·rw[show (a.1==7)=false from beq_eq_false_iff_ne.2 h7,yaJ,yaj,if_neg h7]
    by_cases h8:a.1=8
    ·rw[show (a.1==8)=true from beq_iff_eq.2 h8,yap,yaq,if_pos h8,itoa_ok ha.m,yab,fmt_ok ha.t,yab]
     try dsimp only
     have hlen:=ha.len
     have:=line_J hn2 (by omega) ha.ks a (a.1,(a.2.1,(0,(0,([],a.2.2.2.2.2))))) n 0 [yfB,itoaB a.2.2.2.1,itoaB a.2.2.1] (by omega) (by omega) rfl
     rw[show ((0:Nat):Int)=0 from rfl,List.drop_zero]at this
     rw[this,ycH.e2,script_bare (a:=(a.1,(a.2.1,(0,(0,([],a.2.2.2.2.2)))))) (by omega) hn2 ha.q.1,yab,yaJ,yaJ]
     try dsimp only
     rw[bIf_nest]
     rfl
    ·rw[show (a.1==8)=false from beq_eq_false_iff_ne.2 h8,yaJ,yaj,if_neg h8,ycH.e3]
     unfold F_script_word.f
     rw[yab,script_bare (by omega) hn2 ha.q.1,yab,yaJ]
     try dsimp only
     cases (!eqS (wordB a.1) ⟨#[]⟩)<;>simp[ydC]
noncomputable def joinT (l:List ByteArray):ByteArray:=⟨(joinB l spB).toArray⟩
theorem ye4 (x:ByteArray):joinT [x]=x:=by
 unfold joinT joinB
 rw[List.map_cons,List.map_nil,Lib.join_one]
theorem joinT_snoc (x:ByteArray)(l:List ByteArray)(y:ByteArray):joinT (x::(l++[y]))=joinT (x::l)++(spB++y):=by
 unfold joinT joinB
 apply ByteArray.ext
 rw[ByteArray.data_append,ByteArray.data_append]
 apply Array.toList_inj.1
 rw[Array.toList_append,Array.toList_append]
 rw[List.map_cons,List.map_cons,Lib.join_cons,Lib.join_cons]
 unfold Lib.joinTail
 simp
theorem yep (s:ByteArray):s.size=s.data.toList.length:=yfj s
theorem yfo {x:ByteArray}{l:List ByteArray}{c:Nat}(h:∀ y∈l,y.size≤c):(joinT (x::l)).size≤x.size+l.length*(c+1):=by
 have e:(joinT (x::l)).size=x.size+(Lib.joinTail [32] (l.map (·.data.toList))).length:=by
  unfold joinT joinB
  rw[List.map_cons,Lib.join_cons,yep,yep,← List.length_append]
 rw[e]
 have:∀ l:List ByteArray,(∀ y∈l,y.size≤c)→(Lib.joinTail [32] (l.map (·.data.toList))).length≤l.length*(c+1):=by
  intro l
  induction l with
  | nil=>intro _;exact Nat.zero_le _
  | cons y l ih=>
   intro h
   have h1:=ih (λz hz=>h z (List.mem_cons_of_mem _ hz))
   have h2:=h y List.mem_cons_self
   rw[yfj]at h2
   unfold Lib.joinTail at h1 ⊢
   rw[List.map_cons,List.map_cons,List.flatten_cons,List.length_append,List.length_append,List.length_singleton,List.length_cons,Nat.succ_mul]
   omega
 have:=this l h
 omega
theorem lawline_J {n:Nat}(hn2:n≤536870912)(h20:20≤n){a:Act}(ha:AI n a)(b:Act):∀ (m k:Nat),k≤a.2.2.2.2.1.length→a.2.2.2.2.1.length-k<m →
  ydw.J1 n m (joinT (yfB::itoaB a.2.2.2.1::itoaB a.2.2.1::(a.2.2.2.2.1.take k).map itoaB),(k:Int),a,b,())=ydw.J2 n (joinT (yfB::itoaB a.2.2.2.1::itoaB a.2.2.1::a.2.2.2.2.1.map itoaB),a,b,())
 | 0,k,_,h=>by omega
 | m+1,k,hkl,h=>by
  have hlen:=ha.len
  rw[ydw.e1,yap]
  by_cases hlt:k<a.2.2.2.2.1.length
  ·have hx:=ha.ks _ (yc5 (d:=(0:Int)) hlt)
   have hxl:=ycA hx
   have hle:=yfo (x:=yfB) (l:=itoaB a.2.2.2.1::itoaB a.2.2.1::(a.2.2.2.2.1.take k).map itoaB) (c:=21) (by
    intro y hy
    rcases List.mem_cons.1 hy with rfl | hy
    ·exact ycA ha.m
    rcases List.mem_cons.1 hy with rfl | hy
    ·exact ycA ha.t
    obtain⟨z,hz,rfl⟩:=List.mem_map.1 hy
    exact ycA (ha.ks z (List.mem_of_mem_take hz)))
   rw[List.length_cons,List.length_cons,List.length_map,List.length_take,Nat.min_eq_left (by omega)]at hle
   have h5:yfB.size=5:=rfl
   rw[decide_eq_true (by omega),yaq,yar ⟨by omega,by omega⟩,Int.toNat_natCast,law_number h20 hn2 hx,yab]
   try dsimp only
   rw[yar (by change 1+(itoaB (a.2.2.2.2.1.getD k 0)).size≤4611686018427387904;omega),yar (by rw[ByteArray.size_append];change _+(1+(itoaB (a.2.2.2.2.1.getD k 0)).size)≤4611686018427387904;omega),ybp k (by omega)]
   have h1:(a.2.2.2.2.1.take (k+1))=a.2.2.2.2.1.take k++[a.2.2.2.2.1.getD k 0]:=by
    rw[List.take_add_one,List.getD_eq_getElem?_getD,List.getElem?_eq_getElem hlt];rfl
   have:=lawline_J hn2 h20 ha b m (k+1) (by omega) (by omega)
   rw[h1,List.map_append]at this
   have h2:=joinT_snoc yfB (itoaB a.2.2.2.1::itoaB a.2.2.1::(a.2.2.2.2.1.take k).map itoaB) (itoaB (a.2.2.2.2.1.getD k 0))
   rw[List.cons_append,List.cons_append]at h2
   rw[← h2]
   exact this
  ·rw[decide_eq_false (by omega),yaj,List.take_of_length_le (by omega)]
theorem law_line {n:Nat}(hn:300000≤n)(hn2:n≤536870912){a:Act}(ha:AI n a):ydw.f n a=some (joinT (linS a).1,(linS a).2,()):=by
 rw[ydw.e0]
 unfold linS
 have hz:QB n qZ:=QB_z (by omega)
 have hw:∀ k:Int,k≠1→k≠4→k≠5→k≠6→wordB k=⟨#[]⟩:=λk h1 h4 h5 h6=>by unfold wordB;rw[if_neg h1,if_neg h4,if_neg h5,if_neg h6]
 by_cases h1:a.1=1
 ·rw[h1,show ((1:Int)==1)=true from rfl,yap,yaq,if_neg (by decide),if_neg (by decide),if_neg (by decide),if_neg (by decide),law_bare (by omega) hn2 ha.q.1,yab,ye4]
  rw[show wordB 1=openB from rfl,show eqS (openB:ByteArray) ⟨#[]⟩=false by decide +kernel]
  rfl
 rw[show (a.1==1)=false from beq_eq_false_iff_ne.2 h1,yaJ,yaj]
 by_cases h4:a.1=4
 ·rw[h4,show ((4:Int)==4)=true from rfl,yap,yaq,if_neg (by decide),if_neg (by decide),if_neg (by decide),if_neg (by decide),law_bare (by omega) hn2 ha.q.1,yab,ye4]
  rw[show wordB 4=sweepB from rfl,show eqS (sweepB:ByteArray) ⟨#[]⟩=false by decide +kernel]
  rfl
 rw[show (a.1==4)=false from beq_eq_false_iff_ne.2 h4,yaJ,yaj]
 by_cases h5:a.1=5
 ·rw[h5,show ((5:Int)==5)=true from rfl,yap,yaq,if_neg (by decide),if_neg (by decide),if_neg (by decide),if_neg (by decide),law_bare (by omega) hn2 ha.q.1,yab,ye4]
  rw[show wordB 5=⟨#[99,111,108,108,101,99,116]⟩ from rfl,show eqS (⟨#[99,111,108,108,101,99,116]⟩:ByteArray) ⟨#[]⟩=false by decide +kernel]
  rfl
 rw[show (a.1==5)=false from beq_eq_false_iff_ne.2 h5,yaJ,yaj]
 by_cases h6:a.1=6
 ·rw[h6,show ((6:Int)==6)=true from rfl,yap,yaq,if_neg (by decide),if_neg (by decide),if_neg (by decide),if_neg (by decide),law_bare (by omega) hn2 ha.q.1,yab,ye4]
  rw[show wordB 6=⟨#[99,104,101,99,107]⟩ from rfl,show eqS (⟨#[99,104,101,99,107]⟩:ByteArray) ⟨#[]⟩=false by decide +kernel]
  rfl
 rw[show (a.1==6)=false from beq_eq_false_iff_ne.2 h6,yaJ,yaj]
 by_cases h2:a.1=2
 ·rw[show (a.1==2)=true from beq_iff_eq.2 h2,yap,yaq,if_pos h2,ref26_Ask (by omega) hn2 ha.q.1 ha.q.2.1,yab]
  have hb:=ask_BB (n:=n) (by omega) a.2.1
  have hl:=hb.len
  try dsimp only
  rw[yen hb.byte,ref04_Hex hn2 hb,yab,yar (by change 5+(yaT (hexL (askS a.2.1).1)).size≤4611686018427387904;rw[yah,hexL_len];omega)]
  change bIf _ (bnd (yc4.f n (a.1,(qZ,a.2.2))) _) _=_
  rw[law_bare (a:=(a.1,(qZ,a.2.2))) (by omega) hn2 hz,yab,yaJ]
  have hj:joinT [askW,xB++yaT (hexL (askS a.2.1).1)]=(⟨#[97,115,107,32,120]⟩:ByteArray)++yaT (hexL (askS a.2.1).1):=by
   have:=joinT_snoc askW [] (xB++yaT (hexL (askS a.2.1).1))
   rw[ye4]at this
   rw[List.nil_append]at this
   rw[this,← ByteArray.append_assoc,← ByteArray.append_assoc]
   rfl
  try dsimp only
  rw[hj]
  cases ((askS a.2.1).2==0)<;>simp[ydC]
 rw[show (a.1==2)=false from beq_eq_false_iff_ne.2 h2,yaJ,yaj,if_neg h2]
 by_cases h3:a.1=3
 ·have:=ycA ha.t
  rw[show (a.1==3)=true from beq_iff_eq.2 h3,yap,yaq,if_pos h3,law_number (by omega) hn2 ha.t,yab]
  try dsimp only
  rw[yar (by change 6+(itoaB a.2.2.1).size≤4611686018427387904;omega),law_bare (a:=(a.1,(a.2.1,(0,a.2.2.2)))) (by omega) hn2 ha.q.1,yab]
  have hj:joinT [clockW,itoaB a.2.2.1]=(⟨#[99,108,111,99,107,32]⟩:ByteArray)++itoaB a.2.2.1:=by
   have:=joinT_snoc clockW [] (itoaB a.2.2.1)
   rw[ye4,List.nil_append]at this
   rw[this,← ByteArray.append_assoc]
   rfl
  rw[hj]
 rw[show (a.1==3)=false from beq_eq_false_iff_ne.2 h3,yaJ,yaj,if_neg h3]
 by_cases h7:a.1=7
 ·have:=ycA ha.m
  rw[show (a.1==7)=true from beq_iff_eq.2 h7,yap,yaq,if_pos h7,law_number (by omega) hn2 ha.m,yab]
  try dsimp only
  rw[yar (by change 5+(itoaB a.2.2.2.1).size≤4611686018427387904;omega),law_bare (a:=(a.1,(a.2.1,(a.2.2.1,(0,a.2.2.2.2))))) (by omega) hn2 ha.q.1,yab]
  have hj:joinT [failW,itoaB a.2.2.2.1]=(⟨#[102,97,105,108,32]⟩:ByteArray)++itoaB a.2.2.2.1:=by
   have:=joinT_snoc failW [] (itoaB a.2.2.2.1)
   rw[ye4,List.nil_append]at this
   rw[this,← ByteArray.append_assoc]
   rfl
  rw[hj]
 rw[show (a.1==7)=false from beq_eq_false_iff_ne.2 h7,yaJ,yaj,if_neg h7]
 by_cases h8:a.1=8
 ·have hl1:=ycA ha.m
  have hl2:=ycA ha.t
  have hlen:=ha.len
  rw[show (a.1==8)=true from beq_iff_eq.2 h8,yap,yaq,if_pos h8,law_number (by omega) hn2 ha.m,yab]
  try dsimp only
  have s6:(⟨#[99,114,97,115,104,32]⟩:ByteArray).size=6:=rfl
  have s1:(⟨#[32]⟩:ByteArray).size=1:=rfl
  rw[yar (by omega),yar (by rw[ByteArray.size_append];omega),law_number (by omega) hn2 ha.t,yab]
  try dsimp only
  rw[yar (by rw[ByteArray.size_append,ByteArray.size_append];omega)]
  have hj:joinT [yfB,itoaB a.2.2.2.1,itoaB a.2.2.1]=(((⟨#[99,114,97,115,104,32]⟩:ByteArray)++itoaB a.2.2.2.1)++⟨#[32]⟩)++itoaB a.2.2.1:=by
   have h1:=joinT_snoc yfB [itoaB a.2.2.2.1] (itoaB a.2.2.1)
   have h2:=joinT_snoc yfB [] (itoaB a.2.2.2.1)
   rw[ye4,List.nil_append]at h2
   rw[List.singleton_append]at h1
   rw[h1,h2,← ByteArray.append_assoc,← ByteArray.append_assoc]
   rfl
  have:=lawline_J hn2 (by omega) ha (a.1,(a.2.1,(0,(0,([],a.2.2.2.2.2))))) n 0 (by omega) (by omega)
  rw[show ((0:Nat):Int)=0 from rfl,List.take_zero,List.map_nil,hj]at this
  rw[this,ydw.e2,law_bare (a:=(a.1,(a.2.1,(0,(0,([],a.2.2.2.2.2)))))) (by omega) hn2 ha.q.1,yab,yaJ,yaJ]
  try dsimp only
  rw[bIf_nest]
 rw[show (a.1==8)=false from beq_eq_false_iff_ne.2 h8,yaJ,yaj,if_neg h8,ydw.e3,hw _ h1 h4 h5 h6,ye4,ybF]
 rfl
theorem lin_lens {n:Nat}(hn:300000≤n){a:Act}(ha:AI n a):∃ x l,(linS a).1=x::l∧x.size≤8∧l.length<n+2∧∀ y∈l,y.size≤2*n:=by
 have hlen:=ha.len
 unfold linS
 by_cases h2:a.1=2
 ·rw[if_pos h2]
  have hl:=(ask_BB (n:=n) (by omega) a.2.1).len
  refine⟨_,_,rfl,by decide,by change 1<n+2;omega,λy hy => ?_⟩
  obtain rfl:=List.mem_singleton.1 hy
  rw[ByteArray.size_append,yah,hexL_len];change 1+_≤_;omega
 rw[if_neg h2]
 by_cases h3:a.1=3
 ·rw[if_pos h3]
  refine⟨_,_,rfl,by decide,by change 1<n+2;omega,λy hy => ?_⟩
  obtain rfl:=List.mem_singleton.1 hy
  have:=ycA ha.t;omega
 rw[if_neg h3]
 by_cases h7:a.1=7
 ·rw[if_pos h7]
  refine⟨_,_,rfl,by decide,by change 1<n+2;omega,λy hy => ?_⟩
  obtain rfl:=List.mem_singleton.1 hy
  have:=ycA ha.m;omega
 rw[if_neg h7]
 by_cases h8:a.1=8
 ·rw[if_pos h8]
  refine⟨_,_,rfl,by decide,by rw[List.length_cons,List.length_cons,List.length_map];omega,λy hy => ?_⟩
  rcases List.mem_cons.1 hy with rfl | hy
  ·have:=ycA ha.m;omega
  rcases List.mem_cons.1 hy with rfl | hy
  ·have:=ycA ha.t;omega
  obtain⟨z,hz,rfl⟩:=List.mem_map.1 hy
  have:=ycA (ha.ks z hz);omega
 rw[if_neg h8]
 refine⟨_,_,rfl,?_,by change 0<n+2;omega,λy hy=>by cases hy⟩
 unfold wordB
 repeat' split
 all_goals decide
theorem script_Line {n:Nat}(hn:300000≤n)(hn2:n≤1048576*4){a:Act}(ha:AI n a):ybZ.f n a=some (if (linS a).2=true then (joinT (linS a).1,0,()) else (⟨#[]⟩,1,())):=by
 rw[ybZ.e0,script_line hn (by omega) ha,yab]
 cases h:(linS a).2
 ·rfl
 ·try dsimp only
  obtain⟨x,l,e,h1,h2,h3⟩:=lin_lens hn ha
  have h4:=yfo (x:=x) (c:=2*n) h3
  unfold yeX.f
  have h6:(joinB (linS a).1 spB).length=(joinT (linS a).1).size:=by unfold joinT;rw[yfj]
  have h7:l.length*(2*n+1)≤(4194304+2)*(2*4194304+1):=Nat.mul_le_mul (by omega) (by omega)
  rw[Bool.not_true,yaj,if_pos ⟨by rw[e,List.length_cons];omega,by rw[h6,e];omega⟩,yab]
  rfl
end Go.Proofs.YtdlkpmohjhjmfaaGreatDoor
namespace Go.Proofs.YtdlkpmohjhjmfaaGreatDoor
open Go Go.Va Go.Proofs
theorem join2 (x y:List UInt8)(r:List (List UInt8))(c:UInt8):Lib.join (x::y::r) [c]=x++c::Lib.join (y::r) [c]:=by
 rw[Lib.join_cons,Lib.join_cons]
 unfold Lib.joinTail
 simp
theorem index_split {l:List UInt8}{c:UInt8}{i:Nat}(h:Lib.index l [c]=i):l=l.take i++c::l.drop (i+1):=by
 rcases Lib.index_spec l [c]with ⟨h1,_⟩ | ⟨j,h1,_,h2,_⟩
 ·rw[h1]at h;exact absurd h (by omega)
 ·obtain rfl:j=i:=by rw[h1]at h;omega
  have h3:=Lib.occAt_head rfl h2
  obtain⟨h4,h5⟩:=List.getElem?_eq_some_iff.1 h3
  have h6:=List.take_append_drop j l
  rw[List.drop_eq_getElem_cons h4,h5]at h6
  exact h6.symm
theorem splitK_ne (c:UInt8)(k:Nat)(l:List UInt8):Lib.splitK [c] 0 k l≠[]:=by
 cases k with
 | zero=>exact List.cons_ne_nil _ _
 | succ k=>unfold Lib.splitK;split<;>exact List.cons_ne_nil _ _
theorem splitK_join (c:UInt8):∀ (k:Nat) (l:List UInt8),Lib.join (Lib.splitK [c] 0 k l) [c]=l
 | 0,l=>Lib.join_one l _
 | k+1,l=>by
  unfold Lib.splitK
  split
  ·exact Lib.join_one l _
  ·next h=>
   have hge:=Lib.index_ge l [c]
   have hne:Lib.index l [c] ≠ -1:=λe=>h (beq_iff_eq.2 e)
   obtain⟨i,hi⟩:∃ i:Nat,Lib.index l [c]=i:=⟨(Lib.index l [c]).toNat,by omega⟩
   have ih:=splitK_join c k (l.drop (i+1))
   rw[hi,Int.toNat_natCast,Nat.add_zero]
   change Lib.join (l.take i::Lib.splitK [c] 0 k (l.drop (i+1))) [c]=l
   cases hs:Lib.splitK [c] 0 k (l.drop (i+1)) with
   | nil=>exact absurd hs (splitK_ne c k _)
   | cons y r=>rw[join2,← hs,ih];exact (index_split hi).symm
theorem count_none {c:UInt8}{l:List UInt8}(h:∀ x∈l,x≠c):l.count c=0:=List.count_eq_zero.2 (λhc=>h c hc rfl)
theorem splitK_words (c:UInt8):∀ (x:List UInt8) (l:List (List UInt8)),(∀ w∈x::l,∀ y∈w,y≠c)→Lib.splitK [c] 0 (Lib.count (Lib.join (x::l) [c]) [c]) (Lib.join (x::l) [c])=x::l
 | x,[],h=>by
  rw[Lib.join_one,Lib.count_one,count_none (h x List.mem_cons_self)]
  rfl
 | x,y::r,h=>by
  have hx:=h x List.mem_cons_self
  have ih:=splitK_words c y r (λw hw=>h w (List.mem_cons_of_mem _ hw))
  rw[join2]
  generalize Lib.join (y::r) [c]=J at ih ⊢
  have hc:Lib.count (x++c::J) [c]=Lib.count J [c]+1:=by
   rw[Lib.count_one,Lib.count_one,List.count_append,List.count_cons,count_none hx]
   simp
  have hi:Lib.index (x++c::J) [c]=(x.length:Nat):=by
   refine Lib.index_first (by rw[List.length_append];omega) ?_ (λj hj => ?_)
   ·unfold Lib.occAt
    rw[List.drop_left]
    simp[List.isPrefixOf]
   ·cases ho:Lib.occAt (x++c::J) [c] j with
    | false=>rfl
    | true=>
     have h3:=Lib.occAt_head rfl ho
     rw[List.getElem?_append_left hj,List.getElem?_eq_getElem hj]at h3
     exact absurd (Option.some.inj h3) (hx _ (List.getElem_mem hj))
  rw[hc]
  unfold Lib.splitK
  rw[hi,if_neg (by simp),Int.toNat_natCast,Nat.add_zero,List.take_left]
  change x::Lib.splitK [c] 0 (Lib.count J [c]) ((x++c::J).drop (x.length+1))=_
  rw[show (x++c::J).drop (x.length+1)=J by rw[← List.drop_drop,List.drop_left];rfl,ih]
noncomputable def splitW (s:ByteArray):List ByteArray:=Lib.splitB spB 0 (Lib.countB s spB) s
theorem data_inj:Function.Injective (λs:ByteArray=>s.data.toList):=λa b h=>ByteArray.ext (Array.toList_inj.1 h)
theorem ba_map {l l':List ByteArray}(h:l.map (λs=>s.data.toList)=l'.map (λs=>s.data.toList)):l=l':=by
 induction l generalizing l' with
 | nil=>cases l' with
  | nil=>rfl
  | cons y r=>cases h
 | cons x l ih=>cases l' with
  | nil=>cases h
  | cons y r=>
   rw[List.map_cons,List.map_cons]at h
   injection h with h1 h2
   rw[data_inj h1,ih h2]
theorem split_join (s:ByteArray):joinT (splitW s)=s:=by
 unfold joinT joinB splitW
 rw[show (Lib.splitB spB 0 (Lib.countB s spB) s).map (λs=>s.data.toList)=_ from Lib.splitB_data spB 0 _ s]
 rw[show spB.data.toList=[32] from rfl,splitK_join]
theorem split_words {x:ByteArray}{l:List ByteArray}(h:∀ w∈x::l,∀ c∈w.data.toList,c≠32):splitW (joinT (x::l))=x::l:=by
 apply ba_map
 unfold splitW
 rw[show (Lib.splitB spB 0 (Lib.countB (joinT (x::l)) spB) (joinT (x::l))).map (λs=>s.data.toList)=_ from Lib.splitB_data spB 0 _ _]
 have e:(joinT (x::l)).data.toList=Lib.join (x.data.toList::l.map (λs=>s.data.toList)) [32]:=rfl
 have e2:Lib.countB (joinT (x::l)) spB=Lib.count (Lib.join (x.data.toList::l.map (λs=>s.data.toList)) [32]) [32]:=rfl
 rw[e2,e]
 refine splitK_words 32 _ _ (λw hw => ?_)
 rcases List.mem_cons.1 hw with rfl | hw
 ·exact h x List.mem_cons_self
 ·obtain⟨y,hy,rfl⟩:=List.mem_map.1 hw
  exact h y (List.mem_cons_of_mem _ hy)
theorem split_ne (s:ByteArray):∃ x l,splitW s=x::l:=by
 unfold splitW
 generalize Lib.countB s spB=k
 cases k with
 | zero=>exact⟨_,_,rfl⟩
 | succ k=>unfold Lib.splitB;split<;>exact⟨_,_,rfl⟩
theorem split_len (s:ByteArray):(splitW s).length≤s.size+1:=by
 have h1:=Lib.splitB_length_le spB 0 (Lib.countB s spB) s
 have h2:=Lib.countB_le spB (by decide) s.size s (Nat.le_refl _)
 unfold splitW
 omega
theorem join_mem {w:ByteArray}{x:ByteArray}{l:List ByteArray}(h:w∈x::l):w.size≤(joinT (x::l)).size:=by
 have e:(joinT (x::l)).size=x.size+(Lib.joinTail [32] (l.map (·.data.toList))).length:=by
  unfold joinT joinB
  rw[List.map_cons,Lib.join_cons,yep,yep,← List.length_append]
 rw[e]
 rcases List.mem_cons.1 h with rfl | h
 ·omega
 ·have:∀ l:List ByteArray,w∈l→w.size≤(Lib.joinTail [32] (l.map (·.data.toList))).length:=by
   intro l
   induction l with
   | nil=>intro h;cases h
   | cons y l ih=>
    intro h
    unfold Lib.joinTail at ih ⊢
    rw[List.map_cons,List.map_cons,List.flatten_cons,List.length_append,List.length_append]
    rcases List.mem_cons.1 h with rfl | h
    ·rw[yep];omega
    ·have:=ih h;omega
  have:=this l h
  omega
theorem split_size (s:ByteArray):∀ w∈splitW s,w.size≤s.size:=λw hw=>by
 obtain⟨x,l,e⟩:=split_ne s
 have h:=join_mem (e ▸ hw)
 rwa [← e,split_join]at h
theorem parse_snoc (M:Nat):∀ (l:List UInt8) (acc u:Nat) (r:List UInt8),Lib.parseUintM M acc l = .ok u→Lib.parseUintM M acc (l++r)=Lib.parseUintM M u r
 | [],acc,u,r,h=>by
  have h:(Lib.NumEnd.ok acc:Lib.NumEnd Nat) = .ok u:=h
  injection h with h;rw[h];rfl
 | c::l,acc,u,r,h=>by
  unfold Lib.parseUintM at h
  rw[List.cons_append]
  conv=>lhs;unfold Lib.parseUintM
  split at h
  ·split at h
   ·cases h
   ·split at h
    ·cases h
    ·next h1 h2 h3=>rw[if_pos h1,if_neg h2,if_neg h3];exact parse_snoc M l _ u r h
  ·cases h
theorem dig_nat {k:Nat}(h:k<10):(UInt8.ofNat (48+k)).toNat=48+k:=by
 have:∀ k:Nat,k<10→(UInt8.ofNat (48+k)).toNat=48+k:=by decide
 exact this k h
theorem parse_one {acc k:Nat}(h:k<10)(ha:acc*10+k≤18446744073709551615):Lib.parseUintM 18446744073709551615 acc [UInt8.ofNat (48+k)] = .ok (acc*10+k):=by
 unfold Lib.parseUintM
 rw[dig_nat h,if_pos ⟨by omega,by omega⟩,if_neg (by omega),if_neg (by omega)]
 unfold Lib.parseUintM
 congr 1;omega
theorem parse_dec (u:Nat)(h:u≤18446744073709551615):Lib.parseUintM 18446744073709551615 0 (Lib.decDigits u) = .ok u:=by
 induction u using Nat.strongRecOn with
 | _ u ih=>
  rw[Lib.decDigits]
  by_cases h1:u<10
  ·rw[dif_pos h1,parse_one h1 (by omega)];congr 1;omega
  ·rw[dif_neg h1,parse_snoc _ _ _ _ _ (ih (u/10) (by omega) (by omega)),parse_one (by omega) (by omega)]
   congr 1;omega
theorem dec_dig (u:Nat):∀ c∈Lib.decDigits u,48≤c.toNat∧c.toNat≤57:=by
 induction u using Nat.strongRecOn with
 | _ u ih=>
  rw[Lib.decDigits]
  by_cases h1:u<10
  ·rw[dif_pos h1]
   intro c hc
   obtain rfl:=List.mem_singleton.1 hc
   rw[dig_nat h1];omega
  ·rw[dif_neg h1]
   intro c hc
   rcases List.mem_append.1 hc with hc | hc
   ·exact ih (u/10) (by omega) c hc
   ·obtain rfl:=List.mem_singleton.1 hc
    rw[dig_nat (by omega)];omega
theorem dec_ne (u:Nat):Lib.decDigits u≠[]:=by
 rw[Lib.decDigits]
 split
 ·exact List.cons_ne_nil _ _
 ·simp
theorem parse_itoa {v:Int}(h:I64 v):Lib.parseIntB 64 (itoaB v).data.toList = .ok v:=by
 obtain⟨h1,h2⟩:=h
 have e:(itoaB v).data.toList=Lib.itoa v:=rfl
 rw[e]
 unfold Lib.itoa
 have hU:∀ u:Nat,u≤18446744073709551615→Lib.parseUintB 64 (Lib.decDigits u) = .ok u:=λu hu=>by
  unfold Lib.parseUintB
  rw[if_neg (dec_ne u)]
  exact parse_dec u hu
 by_cases h0:v<0
 ·rw[if_pos h0,Lib.parseIntB_minus,hU _ (by omega)]
  change (if 2 ^ 63<v.natAbs then Lib.NumEnd.range else .ok (-(v.natAbs:Int)))=_
  rw[if_neg (by omega)]
  congr 1;omega
 ·rw[if_neg h0]
  cases hd:Lib.decDigits v.toNat with
  | nil=>exact absurd hd (dec_ne _)
  | cons c r=>
   have hc:=dec_dig v.toNat c (by rw[hd];exact List.mem_cons_self)
   rw[Lib.parseIntB_plain 64 c r (by omega) (by omega),← hd,hU _ (by omega)]
   change (if 2 ^ 63≤v.toNat then Lib.NumEnd.range else .ok (v.toNat:Int))=_
   rw[if_neg (by omega)]
   congr 1;omega
theorem numB_itoa {v:Int}(h:I64 v):numB (itoaB v)=(v,true):=numB_d (parse_itoa h) rfl
theorem numB_back {s:ByteArray}(h:(numB s).2=true):itoaB (numB s).1=s∧I64 (numB s).1:=by
 unfold numB at h ⊢
 rcases hp:Lib.parseIntB 64 s.data.toList with v | _ | _
 ·rw[hp]at h
  have hb:=Lib.parseIntB_bounds hp
  refine⟨yeH h,?_⟩
  try dsimp only
  constructor<;>omega
 ·rw[hp]at h;exact nomatch h
 ·rw[hp]at h;exact nomatch h
theorem itoa_ns (v:Int):∀ c∈(itoaB v).data.toList,c≠32:=by
 have e:(itoaB v).data.toList=Lib.itoa v:=rfl
 rw[e]
 unfold Lib.itoa
 intro c hc
 split at hc
 ·rcases List.mem_cons.1 hc with rfl | hc
  ·decide
  ·have:=dec_dig _ c hc;intro e;rw[e]at this;exact absurd this (by decide)
 ·have:=dec_dig _ c hc;intro e;rw[e]at this;exact absurd this (by decide)
theorem ix16_bt:∀ a:Fin 16,ix H16 (bt H16 ((a:Nat):Int))=((a:Nat):Int):=by decide +kernel
theorem ix16_bt' {a:Int}(h:0≤a∧a<16):ix H16 (bt H16 a)=a:=by
 have:=ix16_bt ⟨a.toNat,by omega⟩
 simp only[show ((a.toNat:Nat):Int)=a by omega]at this
 exact this
theorem bt16_ix:∀ c:Fin 256,0≤ix H16 ((c:Nat):Int)→bt H16 (ix H16 ((c:Nat):Int))=((c:Nat):Int):=by decide +kernel
theorem bt16_ix' {c:Int}(h:0≤c∧c≤255)(hx:0≤ix H16 c):bt H16 (ix H16 c)=c:=by
 have:=bt16_ix ⟨c.toNat,by omega⟩
 simp only[show ((c.toNat:Nat):Int)=c by omega]at this
 exact this hx
def unhex:List Int→Option (List Int)
 | a::b::r=>if ix H16 a<0 then none else if ix H16 b<0 then none else (unhex r).map λl=>(ix H16 a*16+ix H16 b)::l
 | [_]=>none
 | []=>some []
def back (o:Option (List Int)):List Int×Int×Unit:=
 match o with
 | some l=>(l,0,())
 | none=>([],5,())
def pre (p:List Int)(o:Option (List Int)):Option (List Int):=o.map (p ++ ·)
theorem byte_of {a b:Int}(ha:0≤a∧a<16)(hb:0≤b∧b<16):IntKind.u8.wrap (bitI .or .i64 (shlI .i64 a 4) b)=a*16+b:=by
 have e:shlI .i64 a 4=a*2 ^ 4:=by
  unfold shlI
  change IntKind.i64.wrap (a*2 ^ 4)=_
  exact yb6 (by omega)
 rw[e,or_low (by omega) ha.1 hb.1 (by change a*2 ^ 4+b<2 ^ 63;omega),wrap_u8 (by omega)]
 omega
theorem unhex_J {n:Nat}(s:ByteArray)(hs:s.size≤70368744177664)(he:s.size%2=0):∀ (m k:Nat) (out:List Int),2*k≤s.size→s.size-2*k<2*m→out.length=k →
  ycI.J1 n m (s,out,((2*k:Nat):Int),())=some (back (pre out (unhex ((ybN s).drop (2*k)))))
 | 0,k,out,_,h,_=>by omega
 | m + 1,k,out,hk,h,hl=>by
  have hsz:=size_of s
  rw[ycI.e1,yaJ]
  by_cases hlt:2*k<s.size
  ·rw[decide_eq_true (by omega),yaq,yar ⟨by omega,by omega⟩]
   have hd:(ybN s).drop (2*k)=(ybN s).getD (2*k) 0::(ybN s).getD (2*k+1) 0::(ybN s).drop (2*k+1+1):=by
    rw[getD_drop (by omega),getD_drop (k:=2*k+1) (by omega)]
   rw[yb6 (by omega)]
   have e1:bt s ((2*k:Nat):Int)=(ybN s).getD (2*k) 0:=by rw[bt_getD,Int.toNat_natCast]
   have e2:bt s (((2*k:Nat):Int)+1)=(ybN s).getD (2*k+1) 0:=by
    rw[bt_getD];congr 1
   have h1:ycm.f H16 (bt s ((2*k:Nat):Int))=some (ix H16 ((ybN s).getD (2*k) 0),()):=by rw[e1];rfl
   have h2:ycm.f H16 (bt s (((2*k:Nat):Int)+1))=some (ix H16 ((ybN s).getD (2*k+1) 0),()):=by rw[e2];rfl
   rw[h1,yab,yar ⟨by omega,by omega⟩,h2,yab,hd,yaJ,yaJ]
   have ra:=ix_range H16 ((ybN s).getD (2*k) 0)
   have rb:=ix_range H16 ((ybN s).getD (2*k+1) 0)
   have h16:(H16.size:Int)=16:=rfl
   unfold unhex
   try dsimp only
   by_cases ha:ix H16 ((ybN s).getD (2*k) 0)<0
   ·rw[decide_eq_true ha,yaq,if_pos ha];rfl
   ·rw[decide_eq_false ha,yaj,if_neg ha]
    by_cases hb:ix H16 ((ybN s).getD (2*k+1) 0)<0
    ·rw[decide_eq_true hb,yaq,if_pos hb];rfl
    ·rw[decide_eq_false hb,yaj,if_neg hb,ycI.e2,yew (by decide),yar (by omega),ycI.e3,yb6 (by omega),byte_of (by omega) (by omega)]
     have ih:=unhex_J (n:=n) s hs he m (k+1) (out++[ix H16 ((ybN s).getD (2*k) 0)*16+ix H16 ((ybN s).getD (2*k+1) 0)]) (by omega) (by omega) (by simp[hl])
     rw[show ((2*(k+1):Nat):Int)=((2*k:Nat):Int)+2 by omega]at ih
     rw[ih]
     rw[show 2*(k+1)=2*k+1+1 by omega]
     congr 2
     unfold pre
     cases unhex ((ybN s).drop (2*k+1+1))<;>simp
  ·rw[decide_eq_false (by omega),yaj,ycI.e4]
   rw[List.drop_of_length_le (by omega)]
   simp[unhex,pre,back]
theorem unhex_odd:∀ (l:List Int),l.length%2=1→unhex l=none
 | [],h=>by simp at h
 | [_],_=>rfl
 | a::b::r,h=>by
  unfold unhex
  rw[unhex_odd r (by simp at h;omega)]
  simp
theorem alpha_Unhex {n:Nat}{s:ByteArray}(hs:s.size≤70368744177664)(hn:s.size<2*n):ycI.f n s=some (back (unhex (ybN s))):=by
 have hsz:=size_of s
 have hm:Int.tmod (s.size:Int) 2=((s.size%2:Nat):Int):=by rw[Int.tmod_eq_emod_of_nonneg (by omega)];omega
 rw[ycI.e0,yew (by decide),hm,yaJ]
 by_cases h:s.size%2=0
 ·rw[h,show (((0:Nat):Int) != 0)=false from rfl,yaj]
  have:=unhex_J (n:=n) s hs h n 0 [] (by omega) (by omega) rfl
  rw[Nat.mul_zero,List.drop_zero]at this
  refine Eq.trans this ?_
  unfold pre
  cases unhex (ybN s)<;>simp
 ·rw[show (((s.size%2:Nat):Int) != 0)=true by simp;omega,yaq,unhex_odd _ (by omega)];rfl
theorem unhex_hex:∀ l:List Int,BY l→unhex (hexL l)=some l
 | [],_=>rfl
 | y::r,h=>by
  have hy:=h y List.mem_cons_self
  have ih:=unhex_hex r (λx hx=>h x (List.mem_cons_of_mem _ hx))
  have e:hexL (y::r)=bt H16 (y/16)::bt H16 (y%16)::hexL r:=rfl
  rw[e]
  unfold unhex
  rw[ix16_bt' (by omega),ix16_bt' (by omega),if_neg (by omega),if_neg (by omega),ih]
  simp;omega
theorem hex_unhex:∀ (l p:List Int),BY l→unhex l=some p→hexL p=l∧BY p∧p.length*2=l.length
 | [],p,_,h=>by unfold unhex at h;injection h with h;subst h;exact⟨rfl,ydZ,rfl⟩
 | [_],p,_,h=>by unfold unhex at h;exact nomatch h
 | a :: b::r,p,hb,h=>by
  have ha:=hb a List.mem_cons_self
  have hbb:=hb b (List.mem_cons_of_mem _ List.mem_cons_self)
  have ra:=ix_range H16 a
  have rb:=ix_range H16 b
  have h16:(H16.size:Int)=16:=rfl
  unfold unhex at h
  split at h
  ·cases h
  ·rename_i h1
   split at h
   ·cases h
   ·rename_i h2
    obtain⟨p',h',rfl⟩:=Option.map_eq_some_iff.1 h
    obtain⟨i1,i2,i3⟩:=hex_unhex r p' (λx hx=>hb x (List.mem_cons_of_mem _ (List.mem_cons_of_mem _ hx))) h'
    refine⟨?_,λx hx => ?_,?_⟩
    ·change bt H16 ((ix H16 a*16+ix H16 b)/16)::bt H16 ((ix H16 a*16+ix H16 b)%16)::hexL p'=_
     rw[i1,show (ix H16 a*16+ix H16 b)/16=ix H16 a by omega,show (ix H16 a*16+ix H16 b)%16=ix H16 b by omega,bt16_ix' ha (by omega),bt16_ix' hbb (by omega)]
    ·rcases List.mem_cons.1 hx with rfl | hx
     ·omega
     ·exact i2 x hx
    ·rw[List.length_cons,List.length_cons,List.length_cons,← i3];omega
end Go.Proofs.YtdlkpmohjhjmfaaGreatDoor
namespace Go.Proofs.YtdlkpmohjhjmfaaGreatDoor
open Go Go.Va Go.Proofs
def sameA (a b:Act):Bool:=(a.1==b.1)&&((a.2.2.1==b.2.2.1)&&((a.2.2.2.1==b.2.2.2.1)&&(sameQ a.2.1 b.2.1&&allB sameI a.2.2.2.2.1 b.2.2.2.2.1)))
theorem same_J {n:Nat}(hn2:n≤536870912){a b:Act}(ha:a.2.2.2.2.1.length<n)(hl:a.2.2.2.2.1.length=b.2.2.2.2.1.length):∀ (m k:Nat),k≤a.2.2.2.2.1.length→a.2.2.2.2.1.length-k<m →
  ydJ.J2 n m ((k:Int),a,b,())=some (allB sameI (a.2.2.2.2.1.drop k) (b.2.2.2.2.1.drop k),())
 | 0,k,_,h=>by omega
 | m+1,k,hk,h=>by
  rw[ydJ.e2,yaJ]
  by_cases hlt:k<a.2.2.2.2.1.length
  ·have hlt2:k<b.2.2.2.2.1.length:=by omega
   have hd:∀ l:List Int,k<l.length→l.drop k=l.getD k 0::l.drop (k+1):=λl h=>getD_drop h
   rw[decide_eq_true (by omega),yaq,yar ⟨by omega,by omega⟩,yar ⟨by omega,by omega⟩,Int.toNat_natCast,yaJ,hd _ hlt,hd _ hlt2]
   unfold allB
   cases he:((a.2.2.2.2.1.getD k 0)==(b.2.2.2.2.1.getD k 0))
   ·rw[bne,he,Bool.not_false,yaq,show sameI (a.2.2.2.2.1.getD k 0) (b.2.2.2.2.1.getD k 0)=false from he,Bool.false_and]
   ·rw[bne,he,Bool.not_true,yaj,show sameI (a.2.2.2.2.1.getD k 0) (b.2.2.2.2.1.getD k 0)=true from he,Bool.true_and,ybp k (by omega)]
    exact same_J hn2 ha hl m (k+1) (by omega) (by omega)
  ·rw[decide_eq_false (by omega),yaj,ydJ.e3,List.drop_eq_nil_of_le (by omega),List.drop_eq_nil_of_le (by omega)]
   rfl
theorem allB_nlen:∀ (x y:List Int),x.length≠y.length→allB sameI x y=false
 | [],[],h=>absurd rfl h
 | [],_::_,_=>rfl
 | _::_,[],_=>rfl
 | a::x,b::y,h=>by
  unfold allB
  rw[allB_nlen x y (λe=>h (by rw[List.length_cons,List.length_cons,e])),Bool.and_false]
theorem law_same {n:Nat}(h3:300≤n)(hn2:n≤536870912){a b:Act}(hq:QB n a.2.1)(ha:a.2.2.2.2.1.length<n):ydJ.f n a b=some (sameA a b,()):=by
 rw[ydJ.e0,yaJ,yaJ,yaJ,yaJ]
 unfold sameA
 cases h1:(a.1==b.1)
 ·rw[bne,h1,Bool.not_false,yaq,Bool.false_and]
 rw[bne,h1,Bool.not_true,yaj,Bool.true_and]
 cases h2:(a.2.2.1==b.2.2.1)
 ·rw[bne,h2,Bool.not_false,yaq,Bool.false_and]
 rw[bne,h2,Bool.not_true,yaj,Bool.true_and]
 cases h4:(a.2.2.2.1==b.2.2.2.1)
 ·rw[bne,h4,Bool.not_false,yaq,Bool.false_and]
 rw[bne,h4,Bool.not_true,yaj,Bool.true_and,ref26_Same h3 hn2 hq,yab]
 cases h5:sameQ a.2.1 b.2.1
 ·rw[Bool.not_false,yaq,Bool.false_and]
 rw[Bool.not_true,yaj,Bool.true_and]
 by_cases hl:a.2.2.2.2.1.length=b.2.2.2.2.1.length
 ·rw[show (((a.2.2.2.2.1.length:Nat):Int) != ((b.2.2.2.2.1.length:Nat):Int))=false by rw[hl];simp,yaj,ydJ.e1]
  have:=same_J hn2 ha hl n 0 (by omega) (by omega)
  rw[List.drop_zero,List.drop_zero]at this
  exact this
 ·rw[show (((a.2.2.2.2.1.length:Nat):Int) != ((b.2.2.2.2.1.length:Nat):Int))=true by simp;omega,yaq,allB_nlen _ _ hl]
theorem bareB_is {a:Act}(h:bareB a=true):sameQ a.2.1 qZ=true∧a.2.2.1=0∧a.2.2.2.1=0∧a.2.2.2.2.1=[]:=by
 unfold bareB at h
 simp only[Bool.and_eq_true,beq_iff_eq]at h
 obtain⟨h1,h2,h3,h4⟩:=h
 exact⟨h1,h2,h3,List.eq_nil_of_length_eq_zero (by omega)⟩
theorem sameA_of {a b:Act}(h1:a.1=b.1)(h2:a.2.2.1=b.2.2.1)(h3:a.2.2.2.1=b.2.2.2.1)(h4:sameQ a.2.1 b.2.1=true)(h5:a.2.2.2.2.1=b.2.2.2.2.1):sameA a b=true:=by
 unfold sameA
 rw[h1,h2,h3,h4,h5,allB_refl (q:=sameI) _ (λx _=>(beq_self_eq_true x:(x==x)=true))]
 simp only[beq_self_eq_true,Bool.and_true]
theorem cutX {n:Nat}(s:ByteArray)(hs:s.size≤4611686018427387904):yc7.f n s xB=some (if s.data.toList.head?=some 120 then (⟨s.data.toList.tail.toArray⟩,true,()) else (s,false,())):=by
 have h1:((xB.size:Nat):Int)=1:=rfl
 have hp:ybw.f n s xB=some (decide (s.data.toList.head?=some 120),()):=by
  rw[ybw.e0,yaJ,h1]
  by_cases h:1≤s.size
  ·rw[decide_eq_true (by omega),yaq,yar ⟨by decide,by omega⟩,yar ⟨by decide,by decide⟩,yaJ,eqS_eq,ba_beq]
   congr 2
   have hc:∃ c r,s.data.toList=c::r:=by
    cases hl:s.data.toList with
    | nil=>rw[yep,hl]at h;exact absurd h (by decide)
    | cons c r=>exact⟨c,r,rfl⟩
   obtain⟨c,r,hl⟩:=hc
   rw[decide_eq_decide,hl]
   have he:(s.extract 0 ((1:Int).toNat)).data.toList=[c]:=by
    rw[show ((1:Int).toNat)=1 from rfl,Lib.extract_from_zero,hl];rfl
   constructor
   ·intro e
    rw[e]at he
    have he:[(120:UInt8)]=[c]:=he
    injection he with he
    rw[← he];rfl
   ·intro e
    have e:some c=some (120:UInt8):=e
    injection e with e
    apply data_inj
    change (s.extract 0 ((1:Int).toNat)).data.toList=_
    rw[he,e]
  ·rw[decide_eq_false (by omega),yaj]
   have:s.data.toList=[]:=List.eq_nil_of_length_eq_zero (by rw[← yep];omega)
   rw[this];rfl
 rw[yc7.e0,ybO.e0,hp,yab]
 try dsimp only
 by_cases h:s.data.toList.head?=some 120
 ·have hc:1≤s.size:=by
   cases hl:s.data.toList with
   | nil=>rw[hl]at h;exact nomatch h
   | cons c r=>rw[yep,hl,List.length_cons];omega
  rw[decide_eq_true h,Bool.not_true,yaj,yar ⟨by omega,by omega⟩,yar ⟨by decide,by omega⟩,yab,if_pos h,h1]
  try dsimp only
  congr 2
  apply data_inj
  change (s.extract ((1:Int).toNat) ((s.size:Int).toNat)).data.toList=s.data.toList.tail
  rw[show ((1:Int).toNat)=1 from rfl,Int.toNat_natCast,Lib.extract_to_end]
  exact (List.drop_one).symm ▸ rfl
 ·rw[decide_eq_false h,Bool.not_false,yaq,yab,if_neg h]
theorem ask_any {n:Nat}(hn:30000≤n)(hn2:n≤536870912)(s:ByteArray)(hs:s.size<n):∃ b ok,ydx.f n s=some (b,ok,()) ∧
  (ok=true→b.2.2=(0,(0,([],())))∧b.1=2∧bdQ n b.2.1∧(askS b.2.1).2=0∧s=xB++yaT (hexL (askS b.2.1).1)):=by
 rw[ydx.e0,cutX s (by omega),yab]
 have key:∀ (h:ByteArray) (c:Bool),h.size≤s.size→(c=true→s=xB++h) →
   ∃ b ok,(bnd (ycI.f n h) λu2=>bnd (ybs.f n u2.1) λu3=>bIf c (bIf ((hide (u2.2.1==(0:Int)))) (bIf ((hide (u3.2.1==(0:Int)))) (bnd (yaH.f n u3.1) λu4=>some (((2,(u3.1,(0,(0,([],()))))):Act),u4.1,())) (some ((2,(u3.1,(0,(0,([],()))))),false,()))) (some ((2,(u3.1,(0,(0,([],()))))),false,()))) (some ((2,(u3.1,(0,(0,([],()))))),false,())))=some (b,ok,()) ∧
   (ok=true→b.2.2=(0,(0,([],())))∧b.1=2∧bdQ n b.2.1∧(askS b.2.1).2=0∧s=xB++yaT (hexL (askS b.2.1).1)):=by
  intro h c hsz hx
  rw[alpha_Unhex (by omega) (by omega),yab]
  have hby:BY (ybN h):=λx hx=>ofBytes_range hx
  have hsz2:=size_of h
  cases hu:unhex (ybN h) with
  | none=>
   unfold back
   try dsimp only
   rcases asked_reads hn hn2 (BB_nil (n:=n) (by omega)) with h1 | ⟨x,h1,_⟩
   ·rw[h1,yab,yaJ,show ((5:Int)==0)=false from rfl,yaj]
    cases c<;>exact⟨_,false,rfl,λh=>nomatch h⟩
   ·rw[h1,yab,yaJ,show ((5:Int)==0)=false from rfl,yaj]
    cases c<;>exact⟨_,false,rfl,λh=>nomatch h⟩
  | some p=>
   obtain⟨i1,i2,i3⟩:=hex_unhex _ _ hby hu
   unfold back
   try dsimp only
   rcases asked_reads hn hn2 (b:=p) ⟨by omega,i2⟩ with h1 | ⟨x,h1,h2,h3,h4⟩
   ·rw[h1,yab,yaJ,yaJ,show ((0:Int)==0)=true from rfl,yaq,show ((2:Int)==0)=false from rfl,yaj]
    cases c<;>exact⟨_,false,rfl,λh=>nomatch h⟩
   ·rw[h1,yab]
    rw[yaJ,show ((0:Int)==0)=true from rfl,yaq,yaq]
    try dsimp only
    rw[acts_Good (by omega) hn2 h2.1,yab]
    obtain⟨g1,g2⟩:=askS_ok h3
    rw[g1]
    cases c
    ·exact⟨_,false,rfl,λh=>nomatch h⟩
    ·refine⟨_,true,rfl,λ_=>⟨rfl,rfl,h2,h3,?_⟩⟩
     change s=xB++yaT (hexL (askS x).1)
     rw[g2,h4,i1,bytesOf_ofBytes]
     exact hx rfl
 by_cases h:s.data.toList.head?=some 120
 ·rw[if_pos h]
  obtain⟨c,r,hl⟩:∃ c r,s.data.toList=c::r:=by
   cases hl:s.data.toList with
   | nil=>rw[hl]at h;exact nomatch h
   | cons c r=>exact⟨c,r,rfl⟩
  rw[hl]at h
  have h:some c=some (120:UInt8):=h
  injection h with h
  refine key ⟨s.data.toList.tail.toArray⟩ true ?_ (λ_ => ?_)
  ·rw[yep,yep s,hl];simp
  ·apply data_inj
   change s.data.toList=(xB++⟨s.data.toList.tail.toArray⟩).data.toList
   rw[ByteArray.data_append,Array.toList_append,hl,h];rfl
 ·rw[if_neg h]
  exact key s false (Nat.le_refl _) (λh=>nomatch h)
theorem ask_back {n:Nat}(hn:30000≤n)(hn2:n≤536870912){q:Q}(hq:bdQ n q)(h:(askS q).2=0):ydx.f n (xB++yaT (hexL (askS q).1))=some ((2,(q,(0,(0,([],()))))),true,()):=by
 obtain⟨g1,g2⟩:=askS_ok h
 have hl:=encQ_len (sndQ_of g1)
 have hsz:(yaT (hexL (askS q).1)).size≤40600:=by rw[yah,hexL_len,g2];omega
 have e:(xB++yaT (hexL (askS q).1)).data.toList=120::(yaT (hexL (askS q).1)).data.toList:=by
  rw[ByteArray.data_append,Array.toList_append];rfl
 rw[ydx.e0,cutX _ (by rw[ByteArray.size_append];change 1+_≤_;omega),yab,e,if_pos (show (120::(yaT (hexL (askS q).1)).data.toList).head?=some 120 from rfl)]
 have hb:BY (hexL (askS q).1):=by
  intro x hx
  obtain⟨y,_,hy⟩:=List.mem_flatMap.1 hx
  have hr:∀ i,0≤bt H16 i∧bt H16 i≤255:=λi=>by
   unfold bt
   have:=(H16.data.toList.getD i.toNat 0).toNat_lt
   omega
  simp only[hex2,List.mem_cons,List.mem_nil_iff,or_false]at hy
  rcases hy with rfl | rfl<;>exact hr _
 change (bnd (ycI.f n (yaT (hexL (askS q).1))) _)=_
 rw[alpha_Unhex (by omega) (by omega),yen hb,unhex_hex _ (by rw[g2];exact BY_Q q),yab]
 unfold back
 try dsimp only
 rw[g2,asked_back hn hn2 hq h,yab,yaJ,show ((0:Int)==0)=true from rfl,yaq,yaq,yaq]
 rw[acts_Good (by omega) hn2 hq.1,yab,g1]
end Go.Proofs.YtdlkpmohjhjmfaaGreatDoor
