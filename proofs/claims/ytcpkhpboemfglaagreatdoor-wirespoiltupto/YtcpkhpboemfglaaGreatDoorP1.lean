/-
  The plain laws.
-/
import Derived.Test.YtcpkhpboemfglaaGreatDoorP0
import Derived.Test.YtcpkhpboemfglaaGreatDoorF0
import Derived.Test.YtcpkhpboemfglaaGreatDoorF1
set_option linter.unusedVariables false
set_option linter.unusedSimpArgs false
namespace Go.Proofs.YtcpkhpboemfglaaGreatDoor
open Go Go.Va Go.Proofs
def hasQ (k:Int):ByteArray:=if k=1∨k=3 then ⟨#[100]⟩ else if k=7∨k=8 then ⟨#[107,105]⟩ else if k=4 then ⟨#[114]⟩ else if k=5 then ⟨#[103]⟩ else if k=6 then ⟨#[107,66,116,108]⟩ else if k=9 then ⟨#[107]⟩ else if k=10 then ⟨#[107,105,121]⟩ else if k=11 then ⟨#[107,105,108,121]⟩ else if k=12 then ⟨#[107,105,108]⟩ else if k=13 then ⟨#[107,105,116]⟩ else if k=14 then ⟨#[112,109,97,120]⟩ else if k=15 then ⟨#[112,102,120]⟩ else if k=16 then ⟨#[107,116]⟩ else if k=17 then ⟨#[105,110,66]⟩ else if k=18 then ⟨#[105,78]⟩ else if k=19 then ⟨#[105]⟩ else if k=20 then ⟨#[107,102]⟩ else ⟨#[46]⟩
def ydU (k:Int):Int:=if k=10∨k=17∨k=18∨k=19 then 1 else 0
def lockK (k:Int)(l:yan):Bool:=if k=11 then !l.2.2.1 else if k=12 then l.1==0 else true
def fromK (k:Int)(f:yaq):Bool:=if k=15 then eqS f.1 ⟨#[]⟩&&nameB f.2.1 else ybf f.1&&(keyB f.2.1&&decide (f.2.2.1≥1))
def goodQ (e:Q):Bool:=
  (decide (1≤e.1)&&decide (e.1≤22))&&(!decide (((e.2.1.size:Nat):Int)>64)&&(ydy e.2.1&&((if 21≤e.1 then eqS e.2.2.1 ⟨#[]⟩ else ybf e.2.2.1)&&(fld (hasQ e.1) 107 (keyB e.2.2.2.1) (eqS e.2.2.2.1 ⟨#[]⟩)&&(fld (hasQ e.1) 105 (decide (e.2.2.2.2.1≥ydU e.1)) ((e.2.2.2.2.1==0))&&(fld (hasQ e.1) 66 (decide (((e.2.2.2.2.2.1.length:Nat):Int)≤1024)) ((((e.2.2.2.2.2.1.length:Nat):Int)==0))&&(fld (hasQ e.1) 116 (tagsB e.2.2.2.2.2.2.1) ((((e.2.2.2.2.2.2.1.length:Nat):Int)==0))&&(fld (hasQ e.1) 108 ((lockB e.2.2.2.2.2.2.2.1&&lockK e.1 e.2.2.2.2.2.2.2.1)) (eqD yaT e.2.2.2.2.2.2.2.1 lockZ)&&(fld (hasQ e.1) 121 (true) ((!e.2.2.2.2.2.2.2.2.1))&&(fld (hasQ e.1) 100 (modeB e.2.2.2.2.2.2.2.2.2.1) (eqD yaC e.2.2.2.2.2.2.2.2.2.1 (0,(0,())))&&(fld (hasQ e.1) 114 (ydf e.2.2.2.2.2.2.2.2.2.2.1) ((((e.2.2.2.2.2.2.2.2.2.2.1.length:Nat):Int)==0))&&(fld (hasQ e.1) 103 (ycv e.2.2.2.2.2.2.2.2.2.2.2.1) ((((e.2.2.2.2.2.2.2.2.2.2.2.1.length:Nat):Int)==0))&&(fld (hasQ e.1) 110 ((decide (e.2.2.2.2.2.2.2.2.2.2.2.2.1≥1)&&decide (e.2.2.2.2.2.2.2.2.2.2.2.2.1≤10000))) ((e.2.2.2.2.2.2.2.2.2.2.2.2.1==0))&&(fld (hasQ e.1) 78 (decide (((e.2.2.2.2.2.2.2.2.2.2.2.2.2.1.length:Nat):Int)≤16)) ((((e.2.2.2.2.2.2.2.2.2.2.2.2.2.1.length:Nat):Int)==0))&&(fld (hasQ e.1) 97 (nameB e.2.2.2.2.2.2.2.2.2.2.2.2.2.2.1) (eqS e.2.2.2.2.2.2.2.2.2.2.2.2.2.2.1 ⟨#[]⟩)&&(fld (hasQ e.1) 112 (nameB e.2.2.2.2.2.2.2.2.2.2.2.2.2.2.2.1) (eqS e.2.2.2.2.2.2.2.2.2.2.2.2.2.2.2.1 ⟨#[]⟩)&&(fld (hasQ e.1) 109 (nameB e.2.2.2.2.2.2.2.2.2.2.2.2.2.2.2.2.1) (eqS e.2.2.2.2.2.2.2.2.2.2.2.2.2.2.2.2.1 ⟨#[]⟩)&&(fld (hasQ e.1) 102 (fromK e.1 e.2.2.2.2.2.2.2.2.2.2.2.2.2.2.2.2.2.1) (eqD ya1 e.2.2.2.2.2.2.2.2.2.2.2.2.2.2.2.2.2.1 spotZ)&&(fld (hasQ e.1) 120 ((decide (e.2.2.2.2.2.2.2.2.2.2.2.2.2.2.2.2.2.2.1≥1)&&decide (e.2.2.2.2.2.2.2.2.2.2.2.2.2.2.2.2.2.2.1≤100))) ((e.2.2.2.2.2.2.2.2.2.2.2.2.2.2.2.2.2.2.1==0)))))))))))))))))))))
theorem ydd (p:yaq):eqD ya1 p p=true:=by
  change ((p.1==p.1)&&((p.2.1==p.2.1)&&(decide (p.2.2.1=p.2.2.1)&&true)))=true
  simp[ba_beq]
theorem good_1 {n:Nat}(h3:300≤n)(hn2:n≤536870912)(w:ByteArray)(b:ByteArray)(y:ByteArray)(i:Int)(bo:List Int)(tg:List yak)(l:yan)(q:Bool)(d:yad)(r:List yag)(g:List yac)(nu:Int)(ns:List Int)(af:ByteArray)(pr:ByteArray)(ma:ByteArray)(fr:yaq)(mx:Int)(u:Unit)(he:QB n (1,w,b,y,i,bo,tg,l,q,d,r,g,nu,ns,af,pr,ma,fr,mx,u)):yaL.f n (1,w,b,y,i,bo,tg,l,q,d,r,g,nu,ns,af,pr,ma,fr,mx,u)=some (goodQ (1,w,b,y,i,bo,tg,l,q,d,r,g,nu,ns,af,pr,ma,fr,mx,u),()):=by
  have hw:w.size<n:=he.w
  rw[yaL.e0]
  simp only[yaL.e1,own_1 h3 hn2 w b y i bo tg l q d r g nu ns af pr ma fr mx u he,yeE,ydj (by omega) hw,ybb.e0,ya3 h3,yaZ,bnd_s,Int.reduceBEq,bIf_t,bIf_f,yco]
  have hbn:=ycu b
  unfold goodQ
  simp only[fld,show inB (hasQ 1) 107=false by decide +kernel,show inB (hasQ 1) 105=false by decide +kernel,show inB (hasQ 1) 66=false by decide +kernel,show inB (hasQ 1) 116=false by decide +kernel,show inB (hasQ 1) 108=false by decide +kernel,show inB (hasQ 1) 121=false by decide +kernel,show inB (hasQ 1) 100=true by decide +kernel,show inB (hasQ 1) 114=false by decide +kernel,show inB (hasQ 1) 103=false by decide +kernel,show inB (hasQ 1) 110=false by decide +kernel,show inB (hasQ 1) 78=false by decide +kernel,show inB (hasQ 1) 97=false by decide +kernel,show inB (hasQ 1) 112=false by decide +kernel,show inB (hasQ 1) 109=false by decide +kernel,show inB (hasQ 1) 102=false by decide +kernel,show inB (hasQ 1) 120=false by decide +kernel,show ydU 1=0 from rfl,show ∀ l,lockK 1 l=true from λ_=>rfl,show ∀ f,fromK 1 f=(ybf f.1&&(keyB f.2.1&&decide (f.2.2.1≥1))) from λ_=>rfl,if_true,if_false,Bool.false_eq_true,yb2,yc3,ydH,ydd,beq_self_eq_true,Bool.true_and,Bool.and_true,Bool.not_false,List.length_nil,c00,show decide ((1:Int)≤1)=true from rfl,show decide ((1:Int)≤22)=true from rfl,show ((21:Int)≤1)=False from eq_false (by decide)]
  revert hbn
  try generalize eqS y ⟨#[]⟩=x0
  try generalize (i==0)=x1
  try generalize (((bo.length:Nat):Int)==0)=x2
  try generalize (((tg.length:Nat):Int)==0)=x3
  try generalize eqD yaT l _=x4
  try generalize eqD yaC d _=x5
  try generalize (((r.length:Nat):Int)==0)=x6
  try generalize (((g.length:Nat):Int)==0)=x7
  try generalize (nu==0)=x8
  try generalize (((ns.length:Nat):Int)==0)=x9
  try generalize eqS af ⟨#[]⟩=x10
  try generalize eqS pr ⟨#[]⟩=x11
  try generalize eqS ma ⟨#[]⟩=x12
  try generalize eqD ya1 fr _=x13
  try generalize (mx==0)=x14
  try generalize keyB y=x15
  try generalize decide (i≥0)=x16
  try generalize decide (i≥1)=x17
  try generalize decide (((bo.length:Nat):Int)≤1024)=x18
  try generalize tagsB tg=x19
  try generalize lockB l=x20
  try generalize l.2.2.1=x21
  try generalize (l.1==0)=x22
  try generalize modeB d=x23
  try generalize ydf r=x24
  try generalize ycv g=x25
  try generalize decide (nu≥1)=x26
  try generalize decide (nu≤10000)=x27
  try generalize decide (((ns.length:Nat):Int)≤16)=x28
  try generalize nameB af=x29
  try generalize nameB pr=x30
  try generalize nameB ma=x31
  try generalize decide (mx≥1)=x32
  try generalize decide (mx≤100)=x33
  try generalize eqS fr.1 ⟨#[]⟩=x34
  try generalize nameB fr.2.1=x35
  try generalize ybf fr.1=x36
  try generalize keyB fr.2.1=x37
  try generalize decide (fr.2.2.1≥1)=x38
  try generalize decide (((w.size:Nat):Int)>64)=x39
  try generalize ydy w=x40
  generalize eqS b ⟨#[]⟩=q1
  generalize ybf b=q2
  clear he hw
  intro hbn
  cases q1<;>cases q2<;>first | exact absurd (hbn rfl) (by decide) | (simp only[Bool.not_false,Bool.not_true,bIf_t,bIf_f,ycI,Bool.true_and,Bool.false_and,Bool.and_false,beq_true,beq_false,Bool.not_not,ydc,Bool.and_true];first | done | simp only[Bool.and_comm,Bool.and_left_comm,Bool.and_assoc])
theorem good_2 {n:Nat}(h3:300≤n)(hn2:n≤536870912)(w:ByteArray)(b:ByteArray)(y:ByteArray)(i:Int)(bo:List Int)(tg:List yak)(l:yan)(q:Bool)(d:yad)(r:List yag)(g:List yac)(nu:Int)(ns:List Int)(af:ByteArray)(pr:ByteArray)(ma:ByteArray)(fr:yaq)(mx:Int)(u:Unit)(he:QB n (2,w,b,y,i,bo,tg,l,q,d,r,g,nu,ns,af,pr,ma,fr,mx,u)):yaL.f n (2,w,b,y,i,bo,tg,l,q,d,r,g,nu,ns,af,pr,ma,fr,mx,u)=some (goodQ (2,w,b,y,i,bo,tg,l,q,d,r,g,nu,ns,af,pr,ma,fr,mx,u),()):=by
  have hw:w.size<n:=he.w
  rw[yaL.e0]
  simp only[yaL.e1,own_2 h3 hn2 w b y i bo tg l q d r g nu ns af pr ma fr mx u he,yeE,ydj (by omega) hw,ybb.e0,ya3 h3,yaZ,bnd_s,Int.reduceBEq,bIf_t,bIf_f,yco]
  have hbn:=ycu b
  unfold goodQ
  simp only[fld,show inB (hasQ 2) 107=false by decide +kernel,show inB (hasQ 2) 105=false by decide +kernel,show inB (hasQ 2) 66=false by decide +kernel,show inB (hasQ 2) 116=false by decide +kernel,show inB (hasQ 2) 108=false by decide +kernel,show inB (hasQ 2) 121=false by decide +kernel,show inB (hasQ 2) 100=false by decide +kernel,show inB (hasQ 2) 114=false by decide +kernel,show inB (hasQ 2) 103=false by decide +kernel,show inB (hasQ 2) 110=false by decide +kernel,show inB (hasQ 2) 78=false by decide +kernel,show inB (hasQ 2) 97=false by decide +kernel,show inB (hasQ 2) 112=false by decide +kernel,show inB (hasQ 2) 109=false by decide +kernel,show inB (hasQ 2) 102=false by decide +kernel,show inB (hasQ 2) 120=false by decide +kernel,show ydU 2=0 from rfl,show ∀ l,lockK 2 l=true from λ_=>rfl,show ∀ f,fromK 2 f=(ybf f.1&&(keyB f.2.1&&decide (f.2.2.1≥1))) from λ_=>rfl,if_true,if_false,Bool.false_eq_true,yb2,yc3,ydH,ydd,beq_self_eq_true,Bool.true_and,Bool.and_true,Bool.not_false,List.length_nil,c00,show decide ((1:Int)≤2)=true from rfl,show decide ((2:Int)≤22)=true from rfl,show ((21:Int)≤2)=False from eq_false (by decide)]
  revert hbn
  try generalize eqS y ⟨#[]⟩=x0
  try generalize (i==0)=x1
  try generalize (((bo.length:Nat):Int)==0)=x2
  try generalize (((tg.length:Nat):Int)==0)=x3
  try generalize eqD yaT l _=x4
  try generalize eqD yaC d _=x5
  try generalize (((r.length:Nat):Int)==0)=x6
  try generalize (((g.length:Nat):Int)==0)=x7
  try generalize (nu==0)=x8
  try generalize (((ns.length:Nat):Int)==0)=x9
  try generalize eqS af ⟨#[]⟩=x10
  try generalize eqS pr ⟨#[]⟩=x11
  try generalize eqS ma ⟨#[]⟩=x12
  try generalize eqD ya1 fr _=x13
  try generalize (mx==0)=x14
  try generalize keyB y=x15
  try generalize decide (i≥0)=x16
  try generalize decide (i≥1)=x17
  try generalize decide (((bo.length:Nat):Int)≤1024)=x18
  try generalize tagsB tg=x19
  try generalize lockB l=x20
  try generalize l.2.2.1=x21
  try generalize (l.1==0)=x22
  try generalize modeB d=x23
  try generalize ydf r=x24
  try generalize ycv g=x25
  try generalize decide (nu≥1)=x26
  try generalize decide (nu≤10000)=x27
  try generalize decide (((ns.length:Nat):Int)≤16)=x28
  try generalize nameB af=x29
  try generalize nameB pr=x30
  try generalize nameB ma=x31
  try generalize decide (mx≥1)=x32
  try generalize decide (mx≤100)=x33
  try generalize eqS fr.1 ⟨#[]⟩=x34
  try generalize nameB fr.2.1=x35
  try generalize ybf fr.1=x36
  try generalize keyB fr.2.1=x37
  try generalize decide (fr.2.2.1≥1)=x38
  try generalize decide (((w.size:Nat):Int)>64)=x39
  try generalize ydy w=x40
  generalize eqS b ⟨#[]⟩=q1
  generalize ybf b=q2
  clear he hw
  intro hbn
  cases q1<;>cases q2<;>first | exact absurd (hbn rfl) (by decide) | (simp only[Bool.not_false,Bool.not_true,bIf_t,bIf_f,ycI,Bool.true_and,Bool.false_and,Bool.and_false,beq_true,beq_false,Bool.not_not,ydc,Bool.and_true];first | done | simp only[Bool.and_comm,Bool.and_left_comm,Bool.and_assoc])
theorem good_3 {n:Nat}(h3:300≤n)(hn2:n≤536870912)(w:ByteArray)(b:ByteArray)(y:ByteArray)(i:Int)(bo:List Int)(tg:List yak)(l:yan)(q:Bool)(d:yad)(r:List yag)(g:List yac)(nu:Int)(ns:List Int)(af:ByteArray)(pr:ByteArray)(ma:ByteArray)(fr:yaq)(mx:Int)(u:Unit)(he:QB n (3,w,b,y,i,bo,tg,l,q,d,r,g,nu,ns,af,pr,ma,fr,mx,u)):yaL.f n (3,w,b,y,i,bo,tg,l,q,d,r,g,nu,ns,af,pr,ma,fr,mx,u)=some (goodQ (3,w,b,y,i,bo,tg,l,q,d,r,g,nu,ns,af,pr,ma,fr,mx,u),()):=by
  have hw:w.size<n:=he.w
  rw[yaL.e0]
  simp only[yaL.e1,own_3 h3 hn2 w b y i bo tg l q d r g nu ns af pr ma fr mx u he,yeE,ydj (by omega) hw,ybb.e0,ya3 h3,yaZ,bnd_s,Int.reduceBEq,bIf_t,bIf_f,yco]
  have hbn:=ycu b
  unfold goodQ
  simp only[fld,show inB (hasQ 3) 107=false by decide +kernel,show inB (hasQ 3) 105=false by decide +kernel,show inB (hasQ 3) 66=false by decide +kernel,show inB (hasQ 3) 116=false by decide +kernel,show inB (hasQ 3) 108=false by decide +kernel,show inB (hasQ 3) 121=false by decide +kernel,show inB (hasQ 3) 100=true by decide +kernel,show inB (hasQ 3) 114=false by decide +kernel,show inB (hasQ 3) 103=false by decide +kernel,show inB (hasQ 3) 110=false by decide +kernel,show inB (hasQ 3) 78=false by decide +kernel,show inB (hasQ 3) 97=false by decide +kernel,show inB (hasQ 3) 112=false by decide +kernel,show inB (hasQ 3) 109=false by decide +kernel,show inB (hasQ 3) 102=false by decide +kernel,show inB (hasQ 3) 120=false by decide +kernel,show ydU 3=0 from rfl,show ∀ l,lockK 3 l=true from λ_=>rfl,show ∀ f,fromK 3 f=(ybf f.1&&(keyB f.2.1&&decide (f.2.2.1≥1))) from λ_=>rfl,if_true,if_false,Bool.false_eq_true,yb2,yc3,ydH,ydd,beq_self_eq_true,Bool.true_and,Bool.and_true,Bool.not_false,List.length_nil,c00,show decide ((1:Int)≤3)=true from rfl,show decide ((3:Int)≤22)=true from rfl,show ((21:Int)≤3)=False from eq_false (by decide)]
  revert hbn
  try generalize eqS y ⟨#[]⟩=x0
  try generalize (i==0)=x1
  try generalize (((bo.length:Nat):Int)==0)=x2
  try generalize (((tg.length:Nat):Int)==0)=x3
  try generalize eqD yaT l _=x4
  try generalize eqD yaC d _=x5
  try generalize (((r.length:Nat):Int)==0)=x6
  try generalize (((g.length:Nat):Int)==0)=x7
  try generalize (nu==0)=x8
  try generalize (((ns.length:Nat):Int)==0)=x9
  try generalize eqS af ⟨#[]⟩=x10
  try generalize eqS pr ⟨#[]⟩=x11
  try generalize eqS ma ⟨#[]⟩=x12
  try generalize eqD ya1 fr _=x13
  try generalize (mx==0)=x14
  try generalize keyB y=x15
  try generalize decide (i≥0)=x16
  try generalize decide (i≥1)=x17
  try generalize decide (((bo.length:Nat):Int)≤1024)=x18
  try generalize tagsB tg=x19
  try generalize lockB l=x20
  try generalize l.2.2.1=x21
  try generalize (l.1==0)=x22
  try generalize modeB d=x23
  try generalize ydf r=x24
  try generalize ycv g=x25
  try generalize decide (nu≥1)=x26
  try generalize decide (nu≤10000)=x27
  try generalize decide (((ns.length:Nat):Int)≤16)=x28
  try generalize nameB af=x29
  try generalize nameB pr=x30
  try generalize nameB ma=x31
  try generalize decide (mx≥1)=x32
  try generalize decide (mx≤100)=x33
  try generalize eqS fr.1 ⟨#[]⟩=x34
  try generalize nameB fr.2.1=x35
  try generalize ybf fr.1=x36
  try generalize keyB fr.2.1=x37
  try generalize decide (fr.2.2.1≥1)=x38
  try generalize decide (((w.size:Nat):Int)>64)=x39
  try generalize ydy w=x40
  generalize eqS b ⟨#[]⟩=q1
  generalize ybf b=q2
  clear he hw
  intro hbn
  cases q1<;>cases q2<;>first | exact absurd (hbn rfl) (by decide) | (simp only[Bool.not_false,Bool.not_true,bIf_t,bIf_f,ycI,Bool.true_and,Bool.false_and,Bool.and_false,beq_true,beq_false,Bool.not_not,ydc,Bool.and_true];first | done | simp only[Bool.and_comm,Bool.and_left_comm,Bool.and_assoc])
theorem good_4 {n:Nat}(h3:300≤n)(hn2:n≤536870912)(w:ByteArray)(b:ByteArray)(y:ByteArray)(i:Int)(bo:List Int)(tg:List yak)(l:yan)(q:Bool)(d:yad)(r:List yag)(g:List yac)(nu:Int)(ns:List Int)(af:ByteArray)(pr:ByteArray)(ma:ByteArray)(fr:yaq)(mx:Int)(u:Unit)(he:QB n (4,w,b,y,i,bo,tg,l,q,d,r,g,nu,ns,af,pr,ma,fr,mx,u)):yaL.f n (4,w,b,y,i,bo,tg,l,q,d,r,g,nu,ns,af,pr,ma,fr,mx,u)=some (goodQ (4,w,b,y,i,bo,tg,l,q,d,r,g,nu,ns,af,pr,ma,fr,mx,u),()):=by
  have hw:w.size<n:=he.w
  rw[yaL.e0]
  simp only[yaL.e1,own_4 h3 hn2 w b y i bo tg l q d r g nu ns af pr ma fr mx u he,yeE,ydj (by omega) hw,ybb.e0,ya3 h3,yaZ,bnd_s,Int.reduceBEq,bIf_t,bIf_f,yco]
  have hbn:=ycu b
  unfold goodQ
  simp only[fld,show inB (hasQ 4) 107=false by decide +kernel,show inB (hasQ 4) 105=false by decide +kernel,show inB (hasQ 4) 66=false by decide +kernel,show inB (hasQ 4) 116=false by decide +kernel,show inB (hasQ 4) 108=false by decide +kernel,show inB (hasQ 4) 121=false by decide +kernel,show inB (hasQ 4) 100=false by decide +kernel,show inB (hasQ 4) 114=true by decide +kernel,show inB (hasQ 4) 103=false by decide +kernel,show inB (hasQ 4) 110=false by decide +kernel,show inB (hasQ 4) 78=false by decide +kernel,show inB (hasQ 4) 97=false by decide +kernel,show inB (hasQ 4) 112=false by decide +kernel,show inB (hasQ 4) 109=false by decide +kernel,show inB (hasQ 4) 102=false by decide +kernel,show inB (hasQ 4) 120=false by decide +kernel,show ydU 4=0 from rfl,show ∀ l,lockK 4 l=true from λ_=>rfl,show ∀ f,fromK 4 f=(ybf f.1&&(keyB f.2.1&&decide (f.2.2.1≥1))) from λ_=>rfl,if_true,if_false,Bool.false_eq_true,yb2,yc3,ydH,ydd,beq_self_eq_true,Bool.true_and,Bool.and_true,Bool.not_false,List.length_nil,c00,show decide ((1:Int)≤4)=true from rfl,show decide ((4:Int)≤22)=true from rfl,show ((21:Int)≤4)=False from eq_false (by decide)]
  revert hbn
  try generalize eqS y ⟨#[]⟩=x0
  try generalize (i==0)=x1
  try generalize (((bo.length:Nat):Int)==0)=x2
  try generalize (((tg.length:Nat):Int)==0)=x3
  try generalize eqD yaT l _=x4
  try generalize eqD yaC d _=x5
  try generalize (((r.length:Nat):Int)==0)=x6
  try generalize (((g.length:Nat):Int)==0)=x7
  try generalize (nu==0)=x8
  try generalize (((ns.length:Nat):Int)==0)=x9
  try generalize eqS af ⟨#[]⟩=x10
  try generalize eqS pr ⟨#[]⟩=x11
  try generalize eqS ma ⟨#[]⟩=x12
  try generalize eqD ya1 fr _=x13
  try generalize (mx==0)=x14
  try generalize keyB y=x15
  try generalize decide (i≥0)=x16
  try generalize decide (i≥1)=x17
  try generalize decide (((bo.length:Nat):Int)≤1024)=x18
  try generalize tagsB tg=x19
  try generalize lockB l=x20
  try generalize l.2.2.1=x21
  try generalize (l.1==0)=x22
  try generalize modeB d=x23
  try generalize ydf r=x24
  try generalize ycv g=x25
  try generalize decide (nu≥1)=x26
  try generalize decide (nu≤10000)=x27
  try generalize decide (((ns.length:Nat):Int)≤16)=x28
  try generalize nameB af=x29
  try generalize nameB pr=x30
  try generalize nameB ma=x31
  try generalize decide (mx≥1)=x32
  try generalize decide (mx≤100)=x33
  try generalize eqS fr.1 ⟨#[]⟩=x34
  try generalize nameB fr.2.1=x35
  try generalize ybf fr.1=x36
  try generalize keyB fr.2.1=x37
  try generalize decide (fr.2.2.1≥1)=x38
  try generalize decide (((w.size:Nat):Int)>64)=x39
  try generalize ydy w=x40
  generalize eqS b ⟨#[]⟩=q1
  generalize ybf b=q2
  clear he hw
  intro hbn
  cases q1<;>cases q2<;>first | exact absurd (hbn rfl) (by decide) | (simp only[Bool.not_false,Bool.not_true,bIf_t,bIf_f,ycI,Bool.true_and,Bool.false_and,Bool.and_false,beq_true,beq_false,Bool.not_not,ydc,Bool.and_true];first | done | simp only[Bool.and_comm,Bool.and_left_comm,Bool.and_assoc])
theorem good_5 {n:Nat}(h3:300≤n)(hn2:n≤536870912)(w:ByteArray)(b:ByteArray)(y:ByteArray)(i:Int)(bo:List Int)(tg:List yak)(l:yan)(q:Bool)(d:yad)(r:List yag)(g:List yac)(nu:Int)(ns:List Int)(af:ByteArray)(pr:ByteArray)(ma:ByteArray)(fr:yaq)(mx:Int)(u:Unit)(he:QB n (5,w,b,y,i,bo,tg,l,q,d,r,g,nu,ns,af,pr,ma,fr,mx,u)):yaL.f n (5,w,b,y,i,bo,tg,l,q,d,r,g,nu,ns,af,pr,ma,fr,mx,u)=some (goodQ (5,w,b,y,i,bo,tg,l,q,d,r,g,nu,ns,af,pr,ma,fr,mx,u),()):=by
  have hw:w.size<n:=he.w
  rw[yaL.e0]
  simp only[yaL.e1,own_5 h3 hn2 w b y i bo tg l q d r g nu ns af pr ma fr mx u he,yeE,ydj (by omega) hw,ybb.e0,ya3 h3,yaZ,bnd_s,Int.reduceBEq,bIf_t,bIf_f,yco]
  have hbn:=ycu b
  unfold goodQ
  simp only[fld,show inB (hasQ 5) 107=false by decide +kernel,show inB (hasQ 5) 105=false by decide +kernel,show inB (hasQ 5) 66=false by decide +kernel,show inB (hasQ 5) 116=false by decide +kernel,show inB (hasQ 5) 108=false by decide +kernel,show inB (hasQ 5) 121=false by decide +kernel,show inB (hasQ 5) 100=false by decide +kernel,show inB (hasQ 5) 114=false by decide +kernel,show inB (hasQ 5) 103=true by decide +kernel,show inB (hasQ 5) 110=false by decide +kernel,show inB (hasQ 5) 78=false by decide +kernel,show inB (hasQ 5) 97=false by decide +kernel,show inB (hasQ 5) 112=false by decide +kernel,show inB (hasQ 5) 109=false by decide +kernel,show inB (hasQ 5) 102=false by decide +kernel,show inB (hasQ 5) 120=false by decide +kernel,show ydU 5=0 from rfl,show ∀ l,lockK 5 l=true from λ_=>rfl,show ∀ f,fromK 5 f=(ybf f.1&&(keyB f.2.1&&decide (f.2.2.1≥1))) from λ_=>rfl,if_true,if_false,Bool.false_eq_true,yb2,yc3,ydH,ydd,beq_self_eq_true,Bool.true_and,Bool.and_true,Bool.not_false,List.length_nil,c00,show decide ((1:Int)≤5)=true from rfl,show decide ((5:Int)≤22)=true from rfl,show ((21:Int)≤5)=False from eq_false (by decide)]
  revert hbn
  try generalize eqS y ⟨#[]⟩=x0
  try generalize (i==0)=x1
  try generalize (((bo.length:Nat):Int)==0)=x2
  try generalize (((tg.length:Nat):Int)==0)=x3
  try generalize eqD yaT l _=x4
  try generalize eqD yaC d _=x5
  try generalize (((r.length:Nat):Int)==0)=x6
  try generalize (((g.length:Nat):Int)==0)=x7
  try generalize (nu==0)=x8
  try generalize (((ns.length:Nat):Int)==0)=x9
  try generalize eqS af ⟨#[]⟩=x10
  try generalize eqS pr ⟨#[]⟩=x11
  try generalize eqS ma ⟨#[]⟩=x12
  try generalize eqD ya1 fr _=x13
  try generalize (mx==0)=x14
  try generalize keyB y=x15
  try generalize decide (i≥0)=x16
  try generalize decide (i≥1)=x17
  try generalize decide (((bo.length:Nat):Int)≤1024)=x18
  try generalize tagsB tg=x19
  try generalize lockB l=x20
  try generalize l.2.2.1=x21
  try generalize (l.1==0)=x22
  try generalize modeB d=x23
  try generalize ydf r=x24
  try generalize ycv g=x25
  try generalize decide (nu≥1)=x26
  try generalize decide (nu≤10000)=x27
  try generalize decide (((ns.length:Nat):Int)≤16)=x28
  try generalize nameB af=x29
  try generalize nameB pr=x30
  try generalize nameB ma=x31
  try generalize decide (mx≥1)=x32
  try generalize decide (mx≤100)=x33
  try generalize eqS fr.1 ⟨#[]⟩=x34
  try generalize nameB fr.2.1=x35
  try generalize ybf fr.1=x36
  try generalize keyB fr.2.1=x37
  try generalize decide (fr.2.2.1≥1)=x38
  try generalize decide (((w.size:Nat):Int)>64)=x39
  try generalize ydy w=x40
  generalize eqS b ⟨#[]⟩=q1
  generalize ybf b=q2
  clear he hw
  intro hbn
  cases q1<;>cases q2<;>first | exact absurd (hbn rfl) (by decide) | (simp only[Bool.not_false,Bool.not_true,bIf_t,bIf_f,ycI,Bool.true_and,Bool.false_and,Bool.and_false,beq_true,beq_false,Bool.not_not,ydc,Bool.and_true];first | done | simp only[Bool.and_comm,Bool.and_left_comm,Bool.and_assoc])
theorem good_6 {n:Nat}(h3:300≤n)(hn2:n≤536870912)(w:ByteArray)(b:ByteArray)(y:ByteArray)(i:Int)(bo:List Int)(tg:List yak)(l:yan)(q:Bool)(d:yad)(r:List yag)(g:List yac)(nu:Int)(ns:List Int)(af:ByteArray)(pr:ByteArray)(ma:ByteArray)(fr:yaq)(mx:Int)(u:Unit)(he:QB n (6,w,b,y,i,bo,tg,l,q,d,r,g,nu,ns,af,pr,ma,fr,mx,u)):yaL.f n (6,w,b,y,i,bo,tg,l,q,d,r,g,nu,ns,af,pr,ma,fr,mx,u)=some (goodQ (6,w,b,y,i,bo,tg,l,q,d,r,g,nu,ns,af,pr,ma,fr,mx,u),()):=by
  have hw:w.size<n:=he.w
  rw[yaL.e0]
  simp only[yaL.e1,own_6 h3 hn2 w b y i bo tg l q d r g nu ns af pr ma fr mx u he,yeE,ydj (by omega) hw,ybb.e0,ya3 h3,yaZ,bnd_s,Int.reduceBEq,bIf_t,bIf_f,yco]
  have hbn:=ycu b
  unfold goodQ
  simp only[fld,show inB (hasQ 6) 107=true by decide +kernel,show inB (hasQ 6) 105=false by decide +kernel,show inB (hasQ 6) 66=true by decide +kernel,show inB (hasQ 6) 116=true by decide +kernel,show inB (hasQ 6) 108=true by decide +kernel,show inB (hasQ 6) 121=false by decide +kernel,show inB (hasQ 6) 100=false by decide +kernel,show inB (hasQ 6) 114=false by decide +kernel,show inB (hasQ 6) 103=false by decide +kernel,show inB (hasQ 6) 110=false by decide +kernel,show inB (hasQ 6) 78=false by decide +kernel,show inB (hasQ 6) 97=false by decide +kernel,show inB (hasQ 6) 112=false by decide +kernel,show inB (hasQ 6) 109=false by decide +kernel,show inB (hasQ 6) 102=false by decide +kernel,show inB (hasQ 6) 120=false by decide +kernel,show ydU 6=0 from rfl,show ∀ l,lockK 6 l=true from λ_=>rfl,show ∀ f,fromK 6 f=(ybf f.1&&(keyB f.2.1&&decide (f.2.2.1≥1))) from λ_=>rfl,if_true,if_false,Bool.false_eq_true,yb2,yc3,ydH,ydd,beq_self_eq_true,Bool.true_and,Bool.and_true,Bool.not_false,List.length_nil,c00,show decide ((1:Int)≤6)=true from rfl,show decide ((6:Int)≤22)=true from rfl,show ((21:Int)≤6)=False from eq_false (by decide)]
  revert hbn
  try generalize eqS y ⟨#[]⟩=x0
  try generalize (i==0)=x1
  try generalize (((bo.length:Nat):Int)==0)=x2
  try generalize (((tg.length:Nat):Int)==0)=x3
  try generalize eqD yaT l _=x4
  try generalize eqD yaC d _=x5
  try generalize (((r.length:Nat):Int)==0)=x6
  try generalize (((g.length:Nat):Int)==0)=x7
  try generalize (nu==0)=x8
  try generalize (((ns.length:Nat):Int)==0)=x9
  try generalize eqS af ⟨#[]⟩=x10
  try generalize eqS pr ⟨#[]⟩=x11
  try generalize eqS ma ⟨#[]⟩=x12
  try generalize eqD ya1 fr _=x13
  try generalize (mx==0)=x14
  try generalize keyB y=x15
  try generalize decide (i≥0)=x16
  try generalize decide (i≥1)=x17
  try generalize decide (((bo.length:Nat):Int)≤1024)=x18
  try generalize tagsB tg=x19
  try generalize lockB l=x20
  try generalize l.2.2.1=x21
  try generalize (l.1==0)=x22
  try generalize modeB d=x23
  try generalize ydf r=x24
  try generalize ycv g=x25
  try generalize decide (nu≥1)=x26
  try generalize decide (nu≤10000)=x27
  try generalize decide (((ns.length:Nat):Int)≤16)=x28
  try generalize nameB af=x29
  try generalize nameB pr=x30
  try generalize nameB ma=x31
  try generalize decide (mx≥1)=x32
  try generalize decide (mx≤100)=x33
  try generalize eqS fr.1 ⟨#[]⟩=x34
  try generalize nameB fr.2.1=x35
  try generalize ybf fr.1=x36
  try generalize keyB fr.2.1=x37
  try generalize decide (fr.2.2.1≥1)=x38
  try generalize decide (((w.size:Nat):Int)>64)=x39
  try generalize ydy w=x40
  generalize eqS b ⟨#[]⟩=q1
  generalize ybf b=q2
  clear he hw
  intro hbn
  cases q1<;>cases q2<;>first | exact absurd (hbn rfl) (by decide) | (simp only[Bool.not_false,Bool.not_true,bIf_t,bIf_f,ycI,Bool.true_and,Bool.false_and,Bool.and_false,beq_true,beq_false,Bool.not_not,ydc,Bool.and_true];first | done | simp only[Bool.and_comm,Bool.and_left_comm,Bool.and_assoc])
theorem good_7 {n:Nat}(h3:300≤n)(hn2:n≤536870912)(w:ByteArray)(b:ByteArray)(y:ByteArray)(i:Int)(bo:List Int)(tg:List yak)(l:yan)(q:Bool)(d:yad)(r:List yag)(g:List yac)(nu:Int)(ns:List Int)(af:ByteArray)(pr:ByteArray)(ma:ByteArray)(fr:yaq)(mx:Int)(u:Unit)(he:QB n (7,w,b,y,i,bo,tg,l,q,d,r,g,nu,ns,af,pr,ma,fr,mx,u)):yaL.f n (7,w,b,y,i,bo,tg,l,q,d,r,g,nu,ns,af,pr,ma,fr,mx,u)=some (goodQ (7,w,b,y,i,bo,tg,l,q,d,r,g,nu,ns,af,pr,ma,fr,mx,u),()):=by
  have hw:w.size<n:=he.w
  rw[yaL.e0]
  simp only[yaL.e1,own_7 h3 hn2 w b y i bo tg l q d r g nu ns af pr ma fr mx u he,yeE,ydj (by omega) hw,ybb.e0,ya3 h3,yaZ,bnd_s,Int.reduceBEq,bIf_t,bIf_f,yco]
  have hbn:=ycu b
  unfold goodQ
  simp only[fld,show inB (hasQ 7) 107=true by decide +kernel,show inB (hasQ 7) 105=true by decide +kernel,show inB (hasQ 7) 66=false by decide +kernel,show inB (hasQ 7) 116=false by decide +kernel,show inB (hasQ 7) 108=false by decide +kernel,show inB (hasQ 7) 121=false by decide +kernel,show inB (hasQ 7) 100=false by decide +kernel,show inB (hasQ 7) 114=false by decide +kernel,show inB (hasQ 7) 103=false by decide +kernel,show inB (hasQ 7) 110=false by decide +kernel,show inB (hasQ 7) 78=false by decide +kernel,show inB (hasQ 7) 97=false by decide +kernel,show inB (hasQ 7) 112=false by decide +kernel,show inB (hasQ 7) 109=false by decide +kernel,show inB (hasQ 7) 102=false by decide +kernel,show inB (hasQ 7) 120=false by decide +kernel,show ydU 7=0 from rfl,show ∀ l,lockK 7 l=true from λ_=>rfl,show ∀ f,fromK 7 f=(ybf f.1&&(keyB f.2.1&&decide (f.2.2.1≥1))) from λ_=>rfl,if_true,if_false,Bool.false_eq_true,yb2,yc3,ydH,ydd,beq_self_eq_true,Bool.true_and,Bool.and_true,Bool.not_false,List.length_nil,c00,show decide ((1:Int)≤7)=true from rfl,show decide ((7:Int)≤22)=true from rfl,show ((21:Int)≤7)=False from eq_false (by decide)]
  revert hbn
  try generalize eqS y ⟨#[]⟩=x0
  try generalize (i==0)=x1
  try generalize (((bo.length:Nat):Int)==0)=x2
  try generalize (((tg.length:Nat):Int)==0)=x3
  try generalize eqD yaT l _=x4
  try generalize eqD yaC d _=x5
  try generalize (((r.length:Nat):Int)==0)=x6
  try generalize (((g.length:Nat):Int)==0)=x7
  try generalize (nu==0)=x8
  try generalize (((ns.length:Nat):Int)==0)=x9
  try generalize eqS af ⟨#[]⟩=x10
  try generalize eqS pr ⟨#[]⟩=x11
  try generalize eqS ma ⟨#[]⟩=x12
  try generalize eqD ya1 fr _=x13
  try generalize (mx==0)=x14
  try generalize keyB y=x15
  try generalize decide (i≥0)=x16
  try generalize decide (i≥1)=x17
  try generalize decide (((bo.length:Nat):Int)≤1024)=x18
  try generalize tagsB tg=x19
  try generalize lockB l=x20
  try generalize l.2.2.1=x21
  try generalize (l.1==0)=x22
  try generalize modeB d=x23
  try generalize ydf r=x24
  try generalize ycv g=x25
  try generalize decide (nu≥1)=x26
  try generalize decide (nu≤10000)=x27
  try generalize decide (((ns.length:Nat):Int)≤16)=x28
  try generalize nameB af=x29
  try generalize nameB pr=x30
  try generalize nameB ma=x31
  try generalize decide (mx≥1)=x32
  try generalize decide (mx≤100)=x33
  try generalize eqS fr.1 ⟨#[]⟩=x34
  try generalize nameB fr.2.1=x35
  try generalize ybf fr.1=x36
  try generalize keyB fr.2.1=x37
  try generalize decide (fr.2.2.1≥1)=x38
  try generalize decide (((w.size:Nat):Int)>64)=x39
  try generalize ydy w=x40
  generalize eqS b ⟨#[]⟩=q1
  generalize ybf b=q2
  clear he hw
  intro hbn
  cases q1<;>cases q2<;>first | exact absurd (hbn rfl) (by decide) | (simp only[Bool.not_false,Bool.not_true,bIf_t,bIf_f,ycI,Bool.true_and,Bool.false_and,Bool.and_false,beq_true,beq_false,Bool.not_not,ydc,Bool.and_true];first | done | simp only[Bool.and_comm,Bool.and_left_comm,Bool.and_assoc])
theorem good_8 {n:Nat}(h3:300≤n)(hn2:n≤536870912)(w:ByteArray)(b:ByteArray)(y:ByteArray)(i:Int)(bo:List Int)(tg:List yak)(l:yan)(q:Bool)(d:yad)(r:List yag)(g:List yac)(nu:Int)(ns:List Int)(af:ByteArray)(pr:ByteArray)(ma:ByteArray)(fr:yaq)(mx:Int)(u:Unit)(he:QB n (8,w,b,y,i,bo,tg,l,q,d,r,g,nu,ns,af,pr,ma,fr,mx,u)):yaL.f n (8,w,b,y,i,bo,tg,l,q,d,r,g,nu,ns,af,pr,ma,fr,mx,u)=some (goodQ (8,w,b,y,i,bo,tg,l,q,d,r,g,nu,ns,af,pr,ma,fr,mx,u),()):=by
  have hw:w.size<n:=he.w
  rw[yaL.e0]
  simp only[yaL.e1,own_8 h3 hn2 w b y i bo tg l q d r g nu ns af pr ma fr mx u he,yeE,ydj (by omega) hw,ybb.e0,ya3 h3,yaZ,bnd_s,Int.reduceBEq,bIf_t,bIf_f,yco]
  have hbn:=ycu b
  unfold goodQ
  simp only[fld,show inB (hasQ 8) 107=true by decide +kernel,show inB (hasQ 8) 105=true by decide +kernel,show inB (hasQ 8) 66=false by decide +kernel,show inB (hasQ 8) 116=false by decide +kernel,show inB (hasQ 8) 108=false by decide +kernel,show inB (hasQ 8) 121=false by decide +kernel,show inB (hasQ 8) 100=false by decide +kernel,show inB (hasQ 8) 114=false by decide +kernel,show inB (hasQ 8) 103=false by decide +kernel,show inB (hasQ 8) 110=false by decide +kernel,show inB (hasQ 8) 78=false by decide +kernel,show inB (hasQ 8) 97=false by decide +kernel,show inB (hasQ 8) 112=false by decide +kernel,show inB (hasQ 8) 109=false by decide +kernel,show inB (hasQ 8) 102=false by decide +kernel,show inB (hasQ 8) 120=false by decide +kernel,show ydU 8=0 from rfl,show ∀ l,lockK 8 l=true from λ_=>rfl,show ∀ f,fromK 8 f=(ybf f.1&&(keyB f.2.1&&decide (f.2.2.1≥1))) from λ_=>rfl,if_true,if_false,Bool.false_eq_true,yb2,yc3,ydH,ydd,beq_self_eq_true,Bool.true_and,Bool.and_true,Bool.not_false,List.length_nil,c00,show decide ((1:Int)≤8)=true from rfl,show decide ((8:Int)≤22)=true from rfl,show ((21:Int)≤8)=False from eq_false (by decide)]
  revert hbn
  try generalize eqS y ⟨#[]⟩=x0
  try generalize (i==0)=x1
  try generalize (((bo.length:Nat):Int)==0)=x2
  try generalize (((tg.length:Nat):Int)==0)=x3
  try generalize eqD yaT l _=x4
  try generalize eqD yaC d _=x5
  try generalize (((r.length:Nat):Int)==0)=x6
  try generalize (((g.length:Nat):Int)==0)=x7
  try generalize (nu==0)=x8
  try generalize (((ns.length:Nat):Int)==0)=x9
  try generalize eqS af ⟨#[]⟩=x10
  try generalize eqS pr ⟨#[]⟩=x11
  try generalize eqS ma ⟨#[]⟩=x12
  try generalize eqD ya1 fr _=x13
  try generalize (mx==0)=x14
  try generalize keyB y=x15
  try generalize decide (i≥0)=x16
  try generalize decide (i≥1)=x17
  try generalize decide (((bo.length:Nat):Int)≤1024)=x18
  try generalize tagsB tg=x19
  try generalize lockB l=x20
  try generalize l.2.2.1=x21
  try generalize (l.1==0)=x22
  try generalize modeB d=x23
  try generalize ydf r=x24
  try generalize ycv g=x25
  try generalize decide (nu≥1)=x26
  try generalize decide (nu≤10000)=x27
  try generalize decide (((ns.length:Nat):Int)≤16)=x28
  try generalize nameB af=x29
  try generalize nameB pr=x30
  try generalize nameB ma=x31
  try generalize decide (mx≥1)=x32
  try generalize decide (mx≤100)=x33
  try generalize eqS fr.1 ⟨#[]⟩=x34
  try generalize nameB fr.2.1=x35
  try generalize ybf fr.1=x36
  try generalize keyB fr.2.1=x37
  try generalize decide (fr.2.2.1≥1)=x38
  try generalize decide (((w.size:Nat):Int)>64)=x39
  try generalize ydy w=x40
  generalize eqS b ⟨#[]⟩=q1
  generalize ybf b=q2
  clear he hw
  intro hbn
  cases q1<;>cases q2<;>first | exact absurd (hbn rfl) (by decide) | (simp only[Bool.not_false,Bool.not_true,bIf_t,bIf_f,ycI,Bool.true_and,Bool.false_and,Bool.and_false,beq_true,beq_false,Bool.not_not,ydc,Bool.and_true];first | done | simp only[Bool.and_comm,Bool.and_left_comm,Bool.and_assoc])
theorem good_9 {n:Nat}(h3:300≤n)(hn2:n≤536870912)(w:ByteArray)(b:ByteArray)(y:ByteArray)(i:Int)(bo:List Int)(tg:List yak)(l:yan)(q:Bool)(d:yad)(r:List yag)(g:List yac)(nu:Int)(ns:List Int)(af:ByteArray)(pr:ByteArray)(ma:ByteArray)(fr:yaq)(mx:Int)(u:Unit)(he:QB n (9,w,b,y,i,bo,tg,l,q,d,r,g,nu,ns,af,pr,ma,fr,mx,u)):yaL.f n (9,w,b,y,i,bo,tg,l,q,d,r,g,nu,ns,af,pr,ma,fr,mx,u)=some (goodQ (9,w,b,y,i,bo,tg,l,q,d,r,g,nu,ns,af,pr,ma,fr,mx,u),()):=by
  have hw:w.size<n:=he.w
  rw[yaL.e0]
  simp only[yaL.e1,own_9 h3 hn2 w b y i bo tg l q d r g nu ns af pr ma fr mx u he,yeE,ydj (by omega) hw,ybb.e0,ya3 h3,yaZ,bnd_s,Int.reduceBEq,bIf_t,bIf_f,yco]
  have hbn:=ycu b
  unfold goodQ
  simp only[fld,show inB (hasQ 9) 107=true by decide +kernel,show inB (hasQ 9) 105=false by decide +kernel,show inB (hasQ 9) 66=false by decide +kernel,show inB (hasQ 9) 116=false by decide +kernel,show inB (hasQ 9) 108=false by decide +kernel,show inB (hasQ 9) 121=false by decide +kernel,show inB (hasQ 9) 100=false by decide +kernel,show inB (hasQ 9) 114=false by decide +kernel,show inB (hasQ 9) 103=false by decide +kernel,show inB (hasQ 9) 110=false by decide +kernel,show inB (hasQ 9) 78=false by decide +kernel,show inB (hasQ 9) 97=false by decide +kernel,show inB (hasQ 9) 112=false by decide +kernel,show inB (hasQ 9) 109=false by decide +kernel,show inB (hasQ 9) 102=false by decide +kernel,show inB (hasQ 9) 120=false by decide +kernel,show ydU 9=0 from rfl,show ∀ l,lockK 9 l=true from λ_=>rfl,show ∀ f,fromK 9 f=(ybf f.1&&(keyB f.2.1&&decide (f.2.2.1≥1))) from λ_=>rfl,if_true,if_false,Bool.false_eq_true,yb2,yc3,ydH,ydd,beq_self_eq_true,Bool.true_and,Bool.and_true,Bool.not_false,List.length_nil,c00,show decide ((1:Int)≤9)=true from rfl,show decide ((9:Int)≤22)=true from rfl,show ((21:Int)≤9)=False from eq_false (by decide)]
  revert hbn
  try generalize eqS y ⟨#[]⟩=x0
  try generalize (i==0)=x1
  try generalize (((bo.length:Nat):Int)==0)=x2
  try generalize (((tg.length:Nat):Int)==0)=x3
  try generalize eqD yaT l _=x4
  try generalize eqD yaC d _=x5
  try generalize (((r.length:Nat):Int)==0)=x6
  try generalize (((g.length:Nat):Int)==0)=x7
  try generalize (nu==0)=x8
  try generalize (((ns.length:Nat):Int)==0)=x9
  try generalize eqS af ⟨#[]⟩=x10
  try generalize eqS pr ⟨#[]⟩=x11
  try generalize eqS ma ⟨#[]⟩=x12
  try generalize eqD ya1 fr _=x13
  try generalize (mx==0)=x14
  try generalize keyB y=x15
  try generalize decide (i≥0)=x16
  try generalize decide (i≥1)=x17
  try generalize decide (((bo.length:Nat):Int)≤1024)=x18
  try generalize tagsB tg=x19
  try generalize lockB l=x20
  try generalize l.2.2.1=x21
  try generalize (l.1==0)=x22
  try generalize modeB d=x23
  try generalize ydf r=x24
  try generalize ycv g=x25
  try generalize decide (nu≥1)=x26
  try generalize decide (nu≤10000)=x27
  try generalize decide (((ns.length:Nat):Int)≤16)=x28
  try generalize nameB af=x29
  try generalize nameB pr=x30
  try generalize nameB ma=x31
  try generalize decide (mx≥1)=x32
  try generalize decide (mx≤100)=x33
  try generalize eqS fr.1 ⟨#[]⟩=x34
  try generalize nameB fr.2.1=x35
  try generalize ybf fr.1=x36
  try generalize keyB fr.2.1=x37
  try generalize decide (fr.2.2.1≥1)=x38
  try generalize decide (((w.size:Nat):Int)>64)=x39
  try generalize ydy w=x40
  generalize eqS b ⟨#[]⟩=q1
  generalize ybf b=q2
  clear he hw
  intro hbn
  cases q1<;>cases q2<;>first | exact absurd (hbn rfl) (by decide) | (simp only[Bool.not_false,Bool.not_true,bIf_t,bIf_f,ycI,Bool.true_and,Bool.false_and,Bool.and_false,beq_true,beq_false,Bool.not_not,ydc,Bool.and_true];first | done | simp only[Bool.and_comm,Bool.and_left_comm,Bool.and_assoc])
theorem good_10 {n:Nat}(h3:300≤n)(hn2:n≤536870912)(w:ByteArray)(b:ByteArray)(y:ByteArray)(i:Int)(bo:List Int)(tg:List yak)(l:yan)(q:Bool)(d:yad)(r:List yag)(g:List yac)(nu:Int)(ns:List Int)(af:ByteArray)(pr:ByteArray)(ma:ByteArray)(fr:yaq)(mx:Int)(u:Unit)(he:QB n (10,w,b,y,i,bo,tg,l,q,d,r,g,nu,ns,af,pr,ma,fr,mx,u)):yaL.f n (10,w,b,y,i,bo,tg,l,q,d,r,g,nu,ns,af,pr,ma,fr,mx,u)=some (goodQ (10,w,b,y,i,bo,tg,l,q,d,r,g,nu,ns,af,pr,ma,fr,mx,u),()):=by
  have hw:w.size<n:=he.w
  rw[yaL.e0]
  simp only[yaL.e1,own_10 h3 hn2 w b y i bo tg l q d r g nu ns af pr ma fr mx u he,yeE,ydj (by omega) hw,ybb.e0,ya3 h3,yaZ,bnd_s,Int.reduceBEq,bIf_t,bIf_f,yco]
  have hbn:=ycu b
  unfold goodQ
  simp only[fld,show inB (hasQ 10) 107=true by decide +kernel,show inB (hasQ 10) 105=true by decide +kernel,show inB (hasQ 10) 66=false by decide +kernel,show inB (hasQ 10) 116=false by decide +kernel,show inB (hasQ 10) 108=false by decide +kernel,show inB (hasQ 10) 121=true by decide +kernel,show inB (hasQ 10) 100=false by decide +kernel,show inB (hasQ 10) 114=false by decide +kernel,show inB (hasQ 10) 103=false by decide +kernel,show inB (hasQ 10) 110=false by decide +kernel,show inB (hasQ 10) 78=false by decide +kernel,show inB (hasQ 10) 97=false by decide +kernel,show inB (hasQ 10) 112=false by decide +kernel,show inB (hasQ 10) 109=false by decide +kernel,show inB (hasQ 10) 102=false by decide +kernel,show inB (hasQ 10) 120=false by decide +kernel,show ydU 10=1 from rfl,show ∀ l,lockK 10 l=true from λ_=>rfl,show ∀ f,fromK 10 f=(ybf f.1&&(keyB f.2.1&&decide (f.2.2.1≥1))) from λ_=>rfl,if_true,if_false,Bool.false_eq_true,yb2,yc3,ydH,ydd,beq_self_eq_true,Bool.true_and,Bool.and_true,Bool.not_false,List.length_nil,c00,show decide ((1:Int)≤10)=true from rfl,show decide ((10:Int)≤22)=true from rfl,show ((21:Int)≤10)=False from eq_false (by decide)]
  revert hbn
  try generalize eqS y ⟨#[]⟩=x0
  try generalize (i==0)=x1
  try generalize (((bo.length:Nat):Int)==0)=x2
  try generalize (((tg.length:Nat):Int)==0)=x3
  try generalize eqD yaT l _=x4
  try generalize eqD yaC d _=x5
  try generalize (((r.length:Nat):Int)==0)=x6
  try generalize (((g.length:Nat):Int)==0)=x7
  try generalize (nu==0)=x8
  try generalize (((ns.length:Nat):Int)==0)=x9
  try generalize eqS af ⟨#[]⟩=x10
  try generalize eqS pr ⟨#[]⟩=x11
  try generalize eqS ma ⟨#[]⟩=x12
  try generalize eqD ya1 fr _=x13
  try generalize (mx==0)=x14
  try generalize keyB y=x15
  try generalize decide (i≥0)=x16
  try generalize decide (i≥1)=x17
  try generalize decide (((bo.length:Nat):Int)≤1024)=x18
  try generalize tagsB tg=x19
  try generalize lockB l=x20
  try generalize l.2.2.1=x21
  try generalize (l.1==0)=x22
  try generalize modeB d=x23
  try generalize ydf r=x24
  try generalize ycv g=x25
  try generalize decide (nu≥1)=x26
  try generalize decide (nu≤10000)=x27
  try generalize decide (((ns.length:Nat):Int)≤16)=x28
  try generalize nameB af=x29
  try generalize nameB pr=x30
  try generalize nameB ma=x31
  try generalize decide (mx≥1)=x32
  try generalize decide (mx≤100)=x33
  try generalize eqS fr.1 ⟨#[]⟩=x34
  try generalize nameB fr.2.1=x35
  try generalize ybf fr.1=x36
  try generalize keyB fr.2.1=x37
  try generalize decide (fr.2.2.1≥1)=x38
  try generalize decide (((w.size:Nat):Int)>64)=x39
  try generalize ydy w=x40
  generalize eqS b ⟨#[]⟩=q1
  generalize ybf b=q2
  clear he hw
  intro hbn
  cases q1<;>cases q2<;>first | exact absurd (hbn rfl) (by decide) | (simp only[Bool.not_false,Bool.not_true,bIf_t,bIf_f,ycI,Bool.true_and,Bool.false_and,Bool.and_false,beq_true,beq_false,Bool.not_not,ydc,Bool.and_true];first | done | simp only[Bool.and_comm,Bool.and_left_comm,Bool.and_assoc])
theorem good_11 {n:Nat}(h3:300≤n)(hn2:n≤536870912)(w:ByteArray)(b:ByteArray)(y:ByteArray)(i:Int)(bo:List Int)(tg:List yak)(l:yan)(q:Bool)(d:yad)(r:List yag)(g:List yac)(nu:Int)(ns:List Int)(af:ByteArray)(pr:ByteArray)(ma:ByteArray)(fr:yaq)(mx:Int)(u:Unit)(he:QB n (11,w,b,y,i,bo,tg,l,q,d,r,g,nu,ns,af,pr,ma,fr,mx,u)):yaL.f n (11,w,b,y,i,bo,tg,l,q,d,r,g,nu,ns,af,pr,ma,fr,mx,u)=some (goodQ (11,w,b,y,i,bo,tg,l,q,d,r,g,nu,ns,af,pr,ma,fr,mx,u),()):=by
  have hw:w.size<n:=he.w
  rw[yaL.e0]
  simp only[yaL.e1,own_11 h3 hn2 w b y i bo tg l q d r g nu ns af pr ma fr mx u he,yeE,ydj (by omega) hw,ybb.e0,ya3 h3,yaZ,bnd_s,Int.reduceBEq,bIf_t,bIf_f,yco]
  have hbn:=ycu b
  unfold goodQ
  simp only[fld,show inB (hasQ 11) 107=true by decide +kernel,show inB (hasQ 11) 105=true by decide +kernel,show inB (hasQ 11) 66=false by decide +kernel,show inB (hasQ 11) 116=false by decide +kernel,show inB (hasQ 11) 108=true by decide +kernel,show inB (hasQ 11) 121=true by decide +kernel,show inB (hasQ 11) 100=false by decide +kernel,show inB (hasQ 11) 114=false by decide +kernel,show inB (hasQ 11) 103=false by decide +kernel,show inB (hasQ 11) 110=false by decide +kernel,show inB (hasQ 11) 78=false by decide +kernel,show inB (hasQ 11) 97=false by decide +kernel,show inB (hasQ 11) 112=false by decide +kernel,show inB (hasQ 11) 109=false by decide +kernel,show inB (hasQ 11) 102=false by decide +kernel,show inB (hasQ 11) 120=false by decide +kernel,show ydU 11=0 from rfl,show ∀ l,lockK 11 l=!l.2.2.1 from λ_=>rfl,show ∀ f,fromK 11 f=(ybf f.1&&(keyB f.2.1&&decide (f.2.2.1≥1))) from λ_=>rfl,if_true,if_false,Bool.false_eq_true,yb2,yc3,ydH,ydd,beq_self_eq_true,Bool.true_and,Bool.and_true,Bool.not_false,List.length_nil,c00,show decide ((1:Int)≤11)=true from rfl,show decide ((11:Int)≤22)=true from rfl,show ((21:Int)≤11)=False from eq_false (by decide)]
  revert hbn
  try generalize eqS y ⟨#[]⟩=x0
  try generalize (i==0)=x1
  try generalize (((bo.length:Nat):Int)==0)=x2
  try generalize (((tg.length:Nat):Int)==0)=x3
  try generalize eqD yaT l _=x4
  try generalize eqD yaC d _=x5
  try generalize (((r.length:Nat):Int)==0)=x6
  try generalize (((g.length:Nat):Int)==0)=x7
  try generalize (nu==0)=x8
  try generalize (((ns.length:Nat):Int)==0)=x9
  try generalize eqS af ⟨#[]⟩=x10
  try generalize eqS pr ⟨#[]⟩=x11
  try generalize eqS ma ⟨#[]⟩=x12
  try generalize eqD ya1 fr _=x13
  try generalize (mx==0)=x14
  try generalize keyB y=x15
  try generalize decide (i≥0)=x16
  try generalize decide (i≥1)=x17
  try generalize decide (((bo.length:Nat):Int)≤1024)=x18
  try generalize tagsB tg=x19
  try generalize lockB l=x20
  try generalize l.2.2.1=x21
  try generalize (l.1==0)=x22
  try generalize modeB d=x23
  try generalize ydf r=x24
  try generalize ycv g=x25
  try generalize decide (nu≥1)=x26
  try generalize decide (nu≤10000)=x27
  try generalize decide (((ns.length:Nat):Int)≤16)=x28
  try generalize nameB af=x29
  try generalize nameB pr=x30
  try generalize nameB ma=x31
  try generalize decide (mx≥1)=x32
  try generalize decide (mx≤100)=x33
  try generalize eqS fr.1 ⟨#[]⟩=x34
  try generalize nameB fr.2.1=x35
  try generalize ybf fr.1=x36
  try generalize keyB fr.2.1=x37
  try generalize decide (fr.2.2.1≥1)=x38
  try generalize decide (((w.size:Nat):Int)>64)=x39
  try generalize ydy w=x40
  generalize eqS b ⟨#[]⟩=q1
  generalize ybf b=q2
  clear he hw
  intro hbn
  cases q1<;>cases q2<;>first | exact absurd (hbn rfl) (by decide) | (simp only[Bool.not_false,Bool.not_true,bIf_t,bIf_f,ycI,Bool.true_and,Bool.false_and,Bool.and_false,beq_true,beq_false,Bool.not_not,ydc,Bool.and_true];first | done | simp only[Bool.and_comm,Bool.and_left_comm,Bool.and_assoc])
theorem good_12 {n:Nat}(h3:300≤n)(hn2:n≤536870912)(w:ByteArray)(b:ByteArray)(y:ByteArray)(i:Int)(bo:List Int)(tg:List yak)(l:yan)(q:Bool)(d:yad)(r:List yag)(g:List yac)(nu:Int)(ns:List Int)(af:ByteArray)(pr:ByteArray)(ma:ByteArray)(fr:yaq)(mx:Int)(u:Unit)(he:QB n (12,w,b,y,i,bo,tg,l,q,d,r,g,nu,ns,af,pr,ma,fr,mx,u)):yaL.f n (12,w,b,y,i,bo,tg,l,q,d,r,g,nu,ns,af,pr,ma,fr,mx,u)=some (goodQ (12,w,b,y,i,bo,tg,l,q,d,r,g,nu,ns,af,pr,ma,fr,mx,u),()):=by
  have hw:w.size<n:=he.w
  rw[yaL.e0]
  simp only[yaL.e1,own_12 h3 hn2 w b y i bo tg l q d r g nu ns af pr ma fr mx u he,yeE,ydj (by omega) hw,ybb.e0,ya3 h3,yaZ,bnd_s,Int.reduceBEq,bIf_t,bIf_f,yco]
  have hbn:=ycu b
  unfold goodQ
  simp only[fld,show inB (hasQ 12) 107=true by decide +kernel,show inB (hasQ 12) 105=true by decide +kernel,show inB (hasQ 12) 66=false by decide +kernel,show inB (hasQ 12) 116=false by decide +kernel,show inB (hasQ 12) 108=true by decide +kernel,show inB (hasQ 12) 121=false by decide +kernel,show inB (hasQ 12) 100=false by decide +kernel,show inB (hasQ 12) 114=false by decide +kernel,show inB (hasQ 12) 103=false by decide +kernel,show inB (hasQ 12) 110=false by decide +kernel,show inB (hasQ 12) 78=false by decide +kernel,show inB (hasQ 12) 97=false by decide +kernel,show inB (hasQ 12) 112=false by decide +kernel,show inB (hasQ 12) 109=false by decide +kernel,show inB (hasQ 12) 102=false by decide +kernel,show inB (hasQ 12) 120=false by decide +kernel,show ydU 12=0 from rfl,show ∀ l,lockK 12 l=(l.1==0) from λ_=>rfl,show ∀ f,fromK 12 f=(ybf f.1&&(keyB f.2.1&&decide (f.2.2.1≥1))) from λ_=>rfl,if_true,if_false,Bool.false_eq_true,yb2,yc3,ydH,ydd,beq_self_eq_true,Bool.true_and,Bool.and_true,Bool.not_false,List.length_nil,c00,show decide ((1:Int)≤12)=true from rfl,show decide ((12:Int)≤22)=true from rfl,show ((21:Int)≤12)=False from eq_false (by decide)]
  revert hbn
  try generalize eqS y ⟨#[]⟩=x0
  try generalize (i==0)=x1
  try generalize (((bo.length:Nat):Int)==0)=x2
  try generalize (((tg.length:Nat):Int)==0)=x3
  try generalize eqD yaT l _=x4
  try generalize eqD yaC d _=x5
  try generalize (((r.length:Nat):Int)==0)=x6
  try generalize (((g.length:Nat):Int)==0)=x7
  try generalize (nu==0)=x8
  try generalize (((ns.length:Nat):Int)==0)=x9
  try generalize eqS af ⟨#[]⟩=x10
  try generalize eqS pr ⟨#[]⟩=x11
  try generalize eqS ma ⟨#[]⟩=x12
  try generalize eqD ya1 fr _=x13
  try generalize (mx==0)=x14
  try generalize keyB y=x15
  try generalize decide (i≥0)=x16
  try generalize decide (i≥1)=x17
  try generalize decide (((bo.length:Nat):Int)≤1024)=x18
  try generalize tagsB tg=x19
  try generalize lockB l=x20
  try generalize l.2.2.1=x21
  try generalize (l.1==0)=x22
  try generalize modeB d=x23
  try generalize ydf r=x24
  try generalize ycv g=x25
  try generalize decide (nu≥1)=x26
  try generalize decide (nu≤10000)=x27
  try generalize decide (((ns.length:Nat):Int)≤16)=x28
  try generalize nameB af=x29
  try generalize nameB pr=x30
  try generalize nameB ma=x31
  try generalize decide (mx≥1)=x32
  try generalize decide (mx≤100)=x33
  try generalize eqS fr.1 ⟨#[]⟩=x34
  try generalize nameB fr.2.1=x35
  try generalize ybf fr.1=x36
  try generalize keyB fr.2.1=x37
  try generalize decide (fr.2.2.1≥1)=x38
  try generalize decide (((w.size:Nat):Int)>64)=x39
  try generalize ydy w=x40
  generalize eqS b ⟨#[]⟩=q1
  generalize ybf b=q2
  clear he hw
  intro hbn
  cases q1<;>cases q2<;>first | exact absurd (hbn rfl) (by decide) | (simp only[Bool.not_false,Bool.not_true,bIf_t,bIf_f,ycI,Bool.true_and,Bool.false_and,Bool.and_false,beq_true,beq_false,Bool.not_not,ydc,Bool.and_true];first | done | simp only[Bool.and_comm,Bool.and_left_comm,Bool.and_assoc])
theorem good_13 {n:Nat}(h3:300≤n)(hn2:n≤536870912)(w:ByteArray)(b:ByteArray)(y:ByteArray)(i:Int)(bo:List Int)(tg:List yak)(l:yan)(q:Bool)(d:yad)(r:List yag)(g:List yac)(nu:Int)(ns:List Int)(af:ByteArray)(pr:ByteArray)(ma:ByteArray)(fr:yaq)(mx:Int)(u:Unit)(he:QB n (13,w,b,y,i,bo,tg,l,q,d,r,g,nu,ns,af,pr,ma,fr,mx,u)):yaL.f n (13,w,b,y,i,bo,tg,l,q,d,r,g,nu,ns,af,pr,ma,fr,mx,u)=some (goodQ (13,w,b,y,i,bo,tg,l,q,d,r,g,nu,ns,af,pr,ma,fr,mx,u),()):=by
  have hw:w.size<n:=he.w
  rw[yaL.e0]
  simp only[yaL.e1,own_13 h3 hn2 w b y i bo tg l q d r g nu ns af pr ma fr mx u he,yeE,ydj (by omega) hw,ybb.e0,ya3 h3,yaZ,bnd_s,Int.reduceBEq,bIf_t,bIf_f,yco]
  have hbn:=ycu b
  unfold goodQ
  simp only[fld,show inB (hasQ 13) 107=true by decide +kernel,show inB (hasQ 13) 105=true by decide +kernel,show inB (hasQ 13) 66=false by decide +kernel,show inB (hasQ 13) 116=true by decide +kernel,show inB (hasQ 13) 108=false by decide +kernel,show inB (hasQ 13) 121=false by decide +kernel,show inB (hasQ 13) 100=false by decide +kernel,show inB (hasQ 13) 114=false by decide +kernel,show inB (hasQ 13) 103=false by decide +kernel,show inB (hasQ 13) 110=false by decide +kernel,show inB (hasQ 13) 78=false by decide +kernel,show inB (hasQ 13) 97=false by decide +kernel,show inB (hasQ 13) 112=false by decide +kernel,show inB (hasQ 13) 109=false by decide +kernel,show inB (hasQ 13) 102=false by decide +kernel,show inB (hasQ 13) 120=false by decide +kernel,show ydU 13=0 from rfl,show ∀ l,lockK 13 l=true from λ_=>rfl,show ∀ f,fromK 13 f=(ybf f.1&&(keyB f.2.1&&decide (f.2.2.1≥1))) from λ_=>rfl,if_true,if_false,Bool.false_eq_true,yb2,yc3,ydH,ydd,beq_self_eq_true,Bool.true_and,Bool.and_true,Bool.not_false,List.length_nil,c00,show decide ((1:Int)≤13)=true from rfl,show decide ((13:Int)≤22)=true from rfl,show ((21:Int)≤13)=False from eq_false (by decide)]
  revert hbn
  try generalize eqS y ⟨#[]⟩=x0
  try generalize (i==0)=x1
  try generalize (((bo.length:Nat):Int)==0)=x2
  try generalize (((tg.length:Nat):Int)==0)=x3
  try generalize eqD yaT l _=x4
  try generalize eqD yaC d _=x5
  try generalize (((r.length:Nat):Int)==0)=x6
  try generalize (((g.length:Nat):Int)==0)=x7
  try generalize (nu==0)=x8
  try generalize (((ns.length:Nat):Int)==0)=x9
  try generalize eqS af ⟨#[]⟩=x10
  try generalize eqS pr ⟨#[]⟩=x11
  try generalize eqS ma ⟨#[]⟩=x12
  try generalize eqD ya1 fr _=x13
  try generalize (mx==0)=x14
  try generalize keyB y=x15
  try generalize decide (i≥0)=x16
  try generalize decide (i≥1)=x17
  try generalize decide (((bo.length:Nat):Int)≤1024)=x18
  try generalize tagsB tg=x19
  try generalize lockB l=x20
  try generalize l.2.2.1=x21
  try generalize (l.1==0)=x22
  try generalize modeB d=x23
  try generalize ydf r=x24
  try generalize ycv g=x25
  try generalize decide (nu≥1)=x26
  try generalize decide (nu≤10000)=x27
  try generalize decide (((ns.length:Nat):Int)≤16)=x28
  try generalize nameB af=x29
  try generalize nameB pr=x30
  try generalize nameB ma=x31
  try generalize decide (mx≥1)=x32
  try generalize decide (mx≤100)=x33
  try generalize eqS fr.1 ⟨#[]⟩=x34
  try generalize nameB fr.2.1=x35
  try generalize ybf fr.1=x36
  try generalize keyB fr.2.1=x37
  try generalize decide (fr.2.2.1≥1)=x38
  try generalize decide (((w.size:Nat):Int)>64)=x39
  try generalize ydy w=x40
  generalize eqS b ⟨#[]⟩=q1
  generalize ybf b=q2
  clear he hw
  intro hbn
  cases q1<;>cases q2<;>first | exact absurd (hbn rfl) (by decide) | (simp only[Bool.not_false,Bool.not_true,bIf_t,bIf_f,ycI,Bool.true_and,Bool.false_and,Bool.and_false,beq_true,beq_false,Bool.not_not,ydc,Bool.and_true];first | done | simp only[Bool.and_comm,Bool.and_left_comm,Bool.and_assoc])
theorem good_14 {n:Nat}(h3:300≤n)(hn2:n≤536870912)(w:ByteArray)(b:ByteArray)(y:ByteArray)(i:Int)(bo:List Int)(tg:List yak)(l:yan)(q:Bool)(d:yad)(r:List yag)(g:List yac)(nu:Int)(ns:List Int)(af:ByteArray)(pr:ByteArray)(ma:ByteArray)(fr:yaq)(mx:Int)(u:Unit)(he:QB n (14,w,b,y,i,bo,tg,l,q,d,r,g,nu,ns,af,pr,ma,fr,mx,u)):yaL.f n (14,w,b,y,i,bo,tg,l,q,d,r,g,nu,ns,af,pr,ma,fr,mx,u)=some (goodQ (14,w,b,y,i,bo,tg,l,q,d,r,g,nu,ns,af,pr,ma,fr,mx,u),()):=by
  have hw:w.size<n:=he.w
  rw[yaL.e0]
  simp only[yaL.e1,own_14 h3 hn2 w b y i bo tg l q d r g nu ns af pr ma fr mx u he,yeE,ydj (by omega) hw,ybb.e0,ya3 h3,yaZ,bnd_s,Int.reduceBEq,bIf_t,bIf_f,yco]
  have hbn:=ycu b
  unfold goodQ
  simp only[fld,show inB (hasQ 14) 107=false by decide +kernel,show inB (hasQ 14) 105=false by decide +kernel,show inB (hasQ 14) 66=false by decide +kernel,show inB (hasQ 14) 116=false by decide +kernel,show inB (hasQ 14) 108=false by decide +kernel,show inB (hasQ 14) 121=false by decide +kernel,show inB (hasQ 14) 100=false by decide +kernel,show inB (hasQ 14) 114=false by decide +kernel,show inB (hasQ 14) 103=false by decide +kernel,show inB (hasQ 14) 110=false by decide +kernel,show inB (hasQ 14) 78=false by decide +kernel,show inB (hasQ 14) 97=true by decide +kernel,show inB (hasQ 14) 112=true by decide +kernel,show inB (hasQ 14) 109=true by decide +kernel,show inB (hasQ 14) 102=false by decide +kernel,show inB (hasQ 14) 120=true by decide +kernel,show ydU 14=0 from rfl,show ∀ l,lockK 14 l=true from λ_=>rfl,show ∀ f,fromK 14 f=(ybf f.1&&(keyB f.2.1&&decide (f.2.2.1≥1))) from λ_=>rfl,if_true,if_false,Bool.false_eq_true,yb2,yc3,ydH,ydd,beq_self_eq_true,Bool.true_and,Bool.and_true,Bool.not_false,List.length_nil,c00,show decide ((1:Int)≤14)=true from rfl,show decide ((14:Int)≤22)=true from rfl,show ((21:Int)≤14)=False from eq_false (by decide)]
  revert hbn
  try generalize eqS y ⟨#[]⟩=x0
  try generalize (i==0)=x1
  try generalize (((bo.length:Nat):Int)==0)=x2
  try generalize (((tg.length:Nat):Int)==0)=x3
  try generalize eqD yaT l _=x4
  try generalize eqD yaC d _=x5
  try generalize (((r.length:Nat):Int)==0)=x6
  try generalize (((g.length:Nat):Int)==0)=x7
  try generalize (nu==0)=x8
  try generalize (((ns.length:Nat):Int)==0)=x9
  try generalize eqS af ⟨#[]⟩=x10
  try generalize eqS pr ⟨#[]⟩=x11
  try generalize eqS ma ⟨#[]⟩=x12
  try generalize eqD ya1 fr _=x13
  try generalize (mx==0)=x14
  try generalize keyB y=x15
  try generalize decide (i≥0)=x16
  try generalize decide (i≥1)=x17
  try generalize decide (((bo.length:Nat):Int)≤1024)=x18
  try generalize tagsB tg=x19
  try generalize lockB l=x20
  try generalize l.2.2.1=x21
  try generalize (l.1==0)=x22
  try generalize modeB d=x23
  try generalize ydf r=x24
  try generalize ycv g=x25
  try generalize decide (nu≥1)=x26
  try generalize decide (nu≤10000)=x27
  try generalize decide (((ns.length:Nat):Int)≤16)=x28
  try generalize nameB af=x29
  try generalize nameB pr=x30
  try generalize nameB ma=x31
  try generalize decide (mx≥1)=x32
  try generalize decide (mx≤100)=x33
  try generalize eqS fr.1 ⟨#[]⟩=x34
  try generalize nameB fr.2.1=x35
  try generalize ybf fr.1=x36
  try generalize keyB fr.2.1=x37
  try generalize decide (fr.2.2.1≥1)=x38
  try generalize decide (((w.size:Nat):Int)>64)=x39
  try generalize ydy w=x40
  generalize eqS b ⟨#[]⟩=q1
  generalize ybf b=q2
  clear he hw
  intro hbn
  cases q1<;>cases q2<;>first | exact absurd (hbn rfl) (by decide) | (simp only[Bool.not_false,Bool.not_true,bIf_t,bIf_f,ycI,Bool.true_and,Bool.false_and,Bool.and_false,beq_true,beq_false,Bool.not_not,ydc,Bool.and_true];first | done | simp only[Bool.and_comm,Bool.and_left_comm,Bool.and_assoc])
theorem good_15 {n:Nat}(h3:300≤n)(hn2:n≤536870912)(w:ByteArray)(b:ByteArray)(y:ByteArray)(i:Int)(bo:List Int)(tg:List yak)(l:yan)(q:Bool)(d:yad)(r:List yag)(g:List yac)(nu:Int)(ns:List Int)(af:ByteArray)(pr:ByteArray)(ma:ByteArray)(fr:yaq)(mx:Int)(u:Unit)(he:QB n (15,w,b,y,i,bo,tg,l,q,d,r,g,nu,ns,af,pr,ma,fr,mx,u)):yaL.f n (15,w,b,y,i,bo,tg,l,q,d,r,g,nu,ns,af,pr,ma,fr,mx,u)=some (goodQ (15,w,b,y,i,bo,tg,l,q,d,r,g,nu,ns,af,pr,ma,fr,mx,u),()):=by
  have hw:w.size<n:=he.w
  rw[yaL.e0]
  simp only[yaL.e1,own_15 h3 hn2 w b y i bo tg l q d r g nu ns af pr ma fr mx u he,yeE,ydj (by omega) hw,ybb.e0,ya3 h3,yaZ,bnd_s,Int.reduceBEq,bIf_t,bIf_f,yco]
  have hbn:=ycu b
  unfold goodQ
  simp only[fld,show inB (hasQ 15) 107=false by decide +kernel,show inB (hasQ 15) 105=false by decide +kernel,show inB (hasQ 15) 66=false by decide +kernel,show inB (hasQ 15) 116=false by decide +kernel,show inB (hasQ 15) 108=false by decide +kernel,show inB (hasQ 15) 121=false by decide +kernel,show inB (hasQ 15) 100=false by decide +kernel,show inB (hasQ 15) 114=false by decide +kernel,show inB (hasQ 15) 103=false by decide +kernel,show inB (hasQ 15) 110=false by decide +kernel,show inB (hasQ 15) 78=false by decide +kernel,show inB (hasQ 15) 97=false by decide +kernel,show inB (hasQ 15) 112=true by decide +kernel,show inB (hasQ 15) 109=false by decide +kernel,show inB (hasQ 15) 102=true by decide +kernel,show inB (hasQ 15) 120=true by decide +kernel,show ydU 15=0 from rfl,show ∀ l,lockK 15 l=true from λ_=>rfl,show ∀ f,fromK 15 f=(eqS f.1 ⟨#[]⟩&&nameB f.2.1) from λ_=>rfl,if_true,if_false,Bool.false_eq_true,yb2,yc3,ydH,ydd,beq_self_eq_true,Bool.true_and,Bool.and_true,Bool.not_false,List.length_nil,c00,show decide ((1:Int)≤15)=true from rfl,show decide ((15:Int)≤22)=true from rfl,show ((21:Int)≤15)=False from eq_false (by decide)]
  revert hbn
  try generalize eqS y ⟨#[]⟩=x0
  try generalize (i==0)=x1
  try generalize (((bo.length:Nat):Int)==0)=x2
  try generalize (((tg.length:Nat):Int)==0)=x3
  try generalize eqD yaT l _=x4
  try generalize eqD yaC d _=x5
  try generalize (((r.length:Nat):Int)==0)=x6
  try generalize (((g.length:Nat):Int)==0)=x7
  try generalize (nu==0)=x8
  try generalize (((ns.length:Nat):Int)==0)=x9
  try generalize eqS af ⟨#[]⟩=x10
  try generalize eqS pr ⟨#[]⟩=x11
  try generalize eqS ma ⟨#[]⟩=x12
  try generalize eqD ya1 fr _=x13
  try generalize (mx==0)=x14
  try generalize keyB y=x15
  try generalize decide (i≥0)=x16
  try generalize decide (i≥1)=x17
  try generalize decide (((bo.length:Nat):Int)≤1024)=x18
  try generalize tagsB tg=x19
  try generalize lockB l=x20
  try generalize l.2.2.1=x21
  try generalize (l.1==0)=x22
  try generalize modeB d=x23
  try generalize ydf r=x24
  try generalize ycv g=x25
  try generalize decide (nu≥1)=x26
  try generalize decide (nu≤10000)=x27
  try generalize decide (((ns.length:Nat):Int)≤16)=x28
  try generalize nameB af=x29
  try generalize nameB pr=x30
  try generalize nameB ma=x31
  try generalize decide (mx≥1)=x32
  try generalize decide (mx≤100)=x33
  try generalize eqS fr.1 ⟨#[]⟩=x34
  try generalize nameB fr.2.1=x35
  try generalize ybf fr.1=x36
  try generalize keyB fr.2.1=x37
  try generalize decide (fr.2.2.1≥1)=x38
  try generalize decide (((w.size:Nat):Int)>64)=x39
  try generalize ydy w=x40
  generalize eqS b ⟨#[]⟩=q1
  generalize ybf b=q2
  clear he hw
  intro hbn
  cases q1<;>cases q2<;>first | exact absurd (hbn rfl) (by decide) | (simp only[Bool.not_false,Bool.not_true,bIf_t,bIf_f,ycI,Bool.true_and,Bool.false_and,Bool.and_false,beq_true,beq_false,Bool.not_not,ydc,Bool.and_true];first | done | simp only[Bool.and_comm,Bool.and_left_comm,Bool.and_assoc])
theorem good_16 {n:Nat}(h3:300≤n)(hn2:n≤536870912)(w:ByteArray)(b:ByteArray)(y:ByteArray)(i:Int)(bo:List Int)(tg:List yak)(l:yan)(q:Bool)(d:yad)(r:List yag)(g:List yac)(nu:Int)(ns:List Int)(af:ByteArray)(pr:ByteArray)(ma:ByteArray)(fr:yaq)(mx:Int)(u:Unit)(he:QB n (16,w,b,y,i,bo,tg,l,q,d,r,g,nu,ns,af,pr,ma,fr,mx,u)):yaL.f n (16,w,b,y,i,bo,tg,l,q,d,r,g,nu,ns,af,pr,ma,fr,mx,u)=some (goodQ (16,w,b,y,i,bo,tg,l,q,d,r,g,nu,ns,af,pr,ma,fr,mx,u),()):=by
  have hw:w.size<n:=he.w
  rw[yaL.e0]
  simp only[yaL.e1,own_16 h3 hn2 w b y i bo tg l q d r g nu ns af pr ma fr mx u he,yeE,ydj (by omega) hw,ybb.e0,ya3 h3,yaZ,bnd_s,Int.reduceBEq,bIf_t,bIf_f,yco]
  have hbn:=ycu b
  unfold goodQ
  simp only[fld,show inB (hasQ 16) 107=true by decide +kernel,show inB (hasQ 16) 105=false by decide +kernel,show inB (hasQ 16) 66=false by decide +kernel,show inB (hasQ 16) 116=true by decide +kernel,show inB (hasQ 16) 108=false by decide +kernel,show inB (hasQ 16) 121=false by decide +kernel,show inB (hasQ 16) 100=false by decide +kernel,show inB (hasQ 16) 114=false by decide +kernel,show inB (hasQ 16) 103=false by decide +kernel,show inB (hasQ 16) 110=false by decide +kernel,show inB (hasQ 16) 78=false by decide +kernel,show inB (hasQ 16) 97=false by decide +kernel,show inB (hasQ 16) 112=false by decide +kernel,show inB (hasQ 16) 109=false by decide +kernel,show inB (hasQ 16) 102=false by decide +kernel,show inB (hasQ 16) 120=false by decide +kernel,show ydU 16=0 from rfl,show ∀ l,lockK 16 l=true from λ_=>rfl,show ∀ f,fromK 16 f=(ybf f.1&&(keyB f.2.1&&decide (f.2.2.1≥1))) from λ_=>rfl,if_true,if_false,Bool.false_eq_true,yb2,yc3,ydH,ydd,beq_self_eq_true,Bool.true_and,Bool.and_true,Bool.not_false,List.length_nil,c00,show decide ((1:Int)≤16)=true from rfl,show decide ((16:Int)≤22)=true from rfl,show ((21:Int)≤16)=False from eq_false (by decide)]
  revert hbn
  try generalize eqS y ⟨#[]⟩=x0
  try generalize (i==0)=x1
  try generalize (((bo.length:Nat):Int)==0)=x2
  try generalize (((tg.length:Nat):Int)==0)=x3
  try generalize eqD yaT l _=x4
  try generalize eqD yaC d _=x5
  try generalize (((r.length:Nat):Int)==0)=x6
  try generalize (((g.length:Nat):Int)==0)=x7
  try generalize (nu==0)=x8
  try generalize (((ns.length:Nat):Int)==0)=x9
  try generalize eqS af ⟨#[]⟩=x10
  try generalize eqS pr ⟨#[]⟩=x11
  try generalize eqS ma ⟨#[]⟩=x12
  try generalize eqD ya1 fr _=x13
  try generalize (mx==0)=x14
  try generalize keyB y=x15
  try generalize decide (i≥0)=x16
  try generalize decide (i≥1)=x17
  try generalize decide (((bo.length:Nat):Int)≤1024)=x18
  try generalize tagsB tg=x19
  try generalize lockB l=x20
  try generalize l.2.2.1=x21
  try generalize (l.1==0)=x22
  try generalize modeB d=x23
  try generalize ydf r=x24
  try generalize ycv g=x25
  try generalize decide (nu≥1)=x26
  try generalize decide (nu≤10000)=x27
  try generalize decide (((ns.length:Nat):Int)≤16)=x28
  try generalize nameB af=x29
  try generalize nameB pr=x30
  try generalize nameB ma=x31
  try generalize decide (mx≥1)=x32
  try generalize decide (mx≤100)=x33
  try generalize eqS fr.1 ⟨#[]⟩=x34
  try generalize nameB fr.2.1=x35
  try generalize ybf fr.1=x36
  try generalize keyB fr.2.1=x37
  try generalize decide (fr.2.2.1≥1)=x38
  try generalize decide (((w.size:Nat):Int)>64)=x39
  try generalize ydy w=x40
  generalize eqS b ⟨#[]⟩=q1
  generalize ybf b=q2
  clear he hw
  intro hbn
  cases q1<;>cases q2<;>first | exact absurd (hbn rfl) (by decide) | (simp only[Bool.not_false,Bool.not_true,bIf_t,bIf_f,ycI,Bool.true_and,Bool.false_and,Bool.and_false,beq_true,beq_false,Bool.not_not,ydc,Bool.and_true];first | done | simp only[Bool.and_comm,Bool.and_left_comm,Bool.and_assoc])
theorem good_17 {n:Nat}(h3:300≤n)(hn2:n≤536870912)(w:ByteArray)(b:ByteArray)(y:ByteArray)(i:Int)(bo:List Int)(tg:List yak)(l:yan)(q:Bool)(d:yad)(r:List yag)(g:List yac)(nu:Int)(ns:List Int)(af:ByteArray)(pr:ByteArray)(ma:ByteArray)(fr:yaq)(mx:Int)(u:Unit)(he:QB n (17,w,b,y,i,bo,tg,l,q,d,r,g,nu,ns,af,pr,ma,fr,mx,u)):yaL.f n (17,w,b,y,i,bo,tg,l,q,d,r,g,nu,ns,af,pr,ma,fr,mx,u)=some (goodQ (17,w,b,y,i,bo,tg,l,q,d,r,g,nu,ns,af,pr,ma,fr,mx,u),()):=by
  have hw:w.size<n:=he.w
  rw[yaL.e0]
  simp only[yaL.e1,own_17 h3 hn2 w b y i bo tg l q d r g nu ns af pr ma fr mx u he,yeE,ydj (by omega) hw,ybb.e0,ya3 h3,yaZ,bnd_s,Int.reduceBEq,bIf_t,bIf_f,yco]
  have hbn:=ycu b
  unfold goodQ
  simp only[fld,show inB (hasQ 17) 107=false by decide +kernel,show inB (hasQ 17) 105=true by decide +kernel,show inB (hasQ 17) 66=true by decide +kernel,show inB (hasQ 17) 116=false by decide +kernel,show inB (hasQ 17) 108=false by decide +kernel,show inB (hasQ 17) 121=false by decide +kernel,show inB (hasQ 17) 100=false by decide +kernel,show inB (hasQ 17) 114=false by decide +kernel,show inB (hasQ 17) 103=false by decide +kernel,show inB (hasQ 17) 110=true by decide +kernel,show inB (hasQ 17) 78=false by decide +kernel,show inB (hasQ 17) 97=false by decide +kernel,show inB (hasQ 17) 112=false by decide +kernel,show inB (hasQ 17) 109=false by decide +kernel,show inB (hasQ 17) 102=false by decide +kernel,show inB (hasQ 17) 120=false by decide +kernel,show ydU 17=1 from rfl,show ∀ l,lockK 17 l=true from λ_=>rfl,show ∀ f,fromK 17 f=(ybf f.1&&(keyB f.2.1&&decide (f.2.2.1≥1))) from λ_=>rfl,if_true,if_false,Bool.false_eq_true,yb2,yc3,ydH,ydd,beq_self_eq_true,Bool.true_and,Bool.and_true,Bool.not_false,List.length_nil,c00,show decide ((1:Int)≤17)=true from rfl,show decide ((17:Int)≤22)=true from rfl,show ((21:Int)≤17)=False from eq_false (by decide)]
  revert hbn
  try generalize eqS y ⟨#[]⟩=x0
  try generalize (i==0)=x1
  try generalize (((bo.length:Nat):Int)==0)=x2
  try generalize (((tg.length:Nat):Int)==0)=x3
  try generalize eqD yaT l _=x4
  try generalize eqD yaC d _=x5
  try generalize (((r.length:Nat):Int)==0)=x6
  try generalize (((g.length:Nat):Int)==0)=x7
  try generalize (nu==0)=x8
  try generalize (((ns.length:Nat):Int)==0)=x9
  try generalize eqS af ⟨#[]⟩=x10
  try generalize eqS pr ⟨#[]⟩=x11
  try generalize eqS ma ⟨#[]⟩=x12
  try generalize eqD ya1 fr _=x13
  try generalize (mx==0)=x14
  try generalize keyB y=x15
  try generalize decide (i≥0)=x16
  try generalize decide (i≥1)=x17
  try generalize decide (((bo.length:Nat):Int)≤1024)=x18
  try generalize tagsB tg=x19
  try generalize lockB l=x20
  try generalize l.2.2.1=x21
  try generalize (l.1==0)=x22
  try generalize modeB d=x23
  try generalize ydf r=x24
  try generalize ycv g=x25
  try generalize decide (nu≥1)=x26
  try generalize decide (nu≤10000)=x27
  try generalize decide (((ns.length:Nat):Int)≤16)=x28
  try generalize nameB af=x29
  try generalize nameB pr=x30
  try generalize nameB ma=x31
  try generalize decide (mx≥1)=x32
  try generalize decide (mx≤100)=x33
  try generalize eqS fr.1 ⟨#[]⟩=x34
  try generalize nameB fr.2.1=x35
  try generalize ybf fr.1=x36
  try generalize keyB fr.2.1=x37
  try generalize decide (fr.2.2.1≥1)=x38
  try generalize decide (((w.size:Nat):Int)>64)=x39
  try generalize ydy w=x40
  generalize eqS b ⟨#[]⟩=q1
  generalize ybf b=q2
  clear he hw
  intro hbn
  cases q1<;>cases q2<;>first | exact absurd (hbn rfl) (by decide) | (simp only[Bool.not_false,Bool.not_true,bIf_t,bIf_f,ycI,Bool.true_and,Bool.false_and,Bool.and_false,beq_true,beq_false,Bool.not_not,ydc,Bool.and_true];first | done | simp only[Bool.and_comm,Bool.and_left_comm,Bool.and_assoc])
theorem good_18 {n:Nat}(h3:300≤n)(hn2:n≤536870912)(w:ByteArray)(b:ByteArray)(y:ByteArray)(i:Int)(bo:List Int)(tg:List yak)(l:yan)(q:Bool)(d:yad)(r:List yag)(g:List yac)(nu:Int)(ns:List Int)(af:ByteArray)(pr:ByteArray)(ma:ByteArray)(fr:yaq)(mx:Int)(u:Unit)(he:QB n (18,w,b,y,i,bo,tg,l,q,d,r,g,nu,ns,af,pr,ma,fr,mx,u)):yaL.f n (18,w,b,y,i,bo,tg,l,q,d,r,g,nu,ns,af,pr,ma,fr,mx,u)=some (goodQ (18,w,b,y,i,bo,tg,l,q,d,r,g,nu,ns,af,pr,ma,fr,mx,u),()):=by
  have hw:w.size<n:=he.w
  rw[yaL.e0]
  simp only[yaL.e1,own_18 h3 hn2 w b y i bo tg l q d r g nu ns af pr ma fr mx u he,yeE,ydj (by omega) hw,ybb.e0,ya3 h3,yaZ,bnd_s,Int.reduceBEq,bIf_t,bIf_f,yco]
  have hbn:=ycu b
  unfold goodQ
  simp only[fld,show inB (hasQ 18) 107=false by decide +kernel,show inB (hasQ 18) 105=true by decide +kernel,show inB (hasQ 18) 66=false by decide +kernel,show inB (hasQ 18) 116=false by decide +kernel,show inB (hasQ 18) 108=false by decide +kernel,show inB (hasQ 18) 121=false by decide +kernel,show inB (hasQ 18) 100=false by decide +kernel,show inB (hasQ 18) 114=false by decide +kernel,show inB (hasQ 18) 103=false by decide +kernel,show inB (hasQ 18) 110=false by decide +kernel,show inB (hasQ 18) 78=true by decide +kernel,show inB (hasQ 18) 97=false by decide +kernel,show inB (hasQ 18) 112=false by decide +kernel,show inB (hasQ 18) 109=false by decide +kernel,show inB (hasQ 18) 102=false by decide +kernel,show inB (hasQ 18) 120=false by decide +kernel,show ydU 18=1 from rfl,show ∀ l,lockK 18 l=true from λ_=>rfl,show ∀ f,fromK 18 f=(ybf f.1&&(keyB f.2.1&&decide (f.2.2.1≥1))) from λ_=>rfl,if_true,if_false,Bool.false_eq_true,yb2,yc3,ydH,ydd,beq_self_eq_true,Bool.true_and,Bool.and_true,Bool.not_false,List.length_nil,c00,show decide ((1:Int)≤18)=true from rfl,show decide ((18:Int)≤22)=true from rfl,show ((21:Int)≤18)=False from eq_false (by decide)]
  revert hbn
  try generalize eqS y ⟨#[]⟩=x0
  try generalize (i==0)=x1
  try generalize (((bo.length:Nat):Int)==0)=x2
  try generalize (((tg.length:Nat):Int)==0)=x3
  try generalize eqD yaT l _=x4
  try generalize eqD yaC d _=x5
  try generalize (((r.length:Nat):Int)==0)=x6
  try generalize (((g.length:Nat):Int)==0)=x7
  try generalize (nu==0)=x8
  try generalize (((ns.length:Nat):Int)==0)=x9
  try generalize eqS af ⟨#[]⟩=x10
  try generalize eqS pr ⟨#[]⟩=x11
  try generalize eqS ma ⟨#[]⟩=x12
  try generalize eqD ya1 fr _=x13
  try generalize (mx==0)=x14
  try generalize keyB y=x15
  try generalize decide (i≥0)=x16
  try generalize decide (i≥1)=x17
  try generalize decide (((bo.length:Nat):Int)≤1024)=x18
  try generalize tagsB tg=x19
  try generalize lockB l=x20
  try generalize l.2.2.1=x21
  try generalize (l.1==0)=x22
  try generalize modeB d=x23
  try generalize ydf r=x24
  try generalize ycv g=x25
  try generalize decide (nu≥1)=x26
  try generalize decide (nu≤10000)=x27
  try generalize decide (((ns.length:Nat):Int)≤16)=x28
  try generalize nameB af=x29
  try generalize nameB pr=x30
  try generalize nameB ma=x31
  try generalize decide (mx≥1)=x32
  try generalize decide (mx≤100)=x33
  try generalize eqS fr.1 ⟨#[]⟩=x34
  try generalize nameB fr.2.1=x35
  try generalize ybf fr.1=x36
  try generalize keyB fr.2.1=x37
  try generalize decide (fr.2.2.1≥1)=x38
  try generalize decide (((w.size:Nat):Int)>64)=x39
  try generalize ydy w=x40
  generalize eqS b ⟨#[]⟩=q1
  generalize ybf b=q2
  clear he hw
  intro hbn
  cases q1<;>cases q2<;>first | exact absurd (hbn rfl) (by decide) | (simp only[Bool.not_false,Bool.not_true,bIf_t,bIf_f,ycI,Bool.true_and,Bool.false_and,Bool.and_false,beq_true,beq_false,Bool.not_not,ydc,Bool.and_true];first | done | simp only[Bool.and_comm,Bool.and_left_comm,Bool.and_assoc])
theorem good_19 {n:Nat}(h3:300≤n)(hn2:n≤536870912)(w:ByteArray)(b:ByteArray)(y:ByteArray)(i:Int)(bo:List Int)(tg:List yak)(l:yan)(q:Bool)(d:yad)(r:List yag)(g:List yac)(nu:Int)(ns:List Int)(af:ByteArray)(pr:ByteArray)(ma:ByteArray)(fr:yaq)(mx:Int)(u:Unit)(he:QB n (19,w,b,y,i,bo,tg,l,q,d,r,g,nu,ns,af,pr,ma,fr,mx,u)):yaL.f n (19,w,b,y,i,bo,tg,l,q,d,r,g,nu,ns,af,pr,ma,fr,mx,u)=some (goodQ (19,w,b,y,i,bo,tg,l,q,d,r,g,nu,ns,af,pr,ma,fr,mx,u),()):=by
  have hw:w.size<n:=he.w
  rw[yaL.e0]
  simp only[yaL.e1,own_19 h3 hn2 w b y i bo tg l q d r g nu ns af pr ma fr mx u he,yeE,ydj (by omega) hw,ybb.e0,ya3 h3,yaZ,bnd_s,Int.reduceBEq,bIf_t,bIf_f,yco]
  have hbn:=ycu b
  unfold goodQ
  simp only[fld,show inB (hasQ 19) 107=false by decide +kernel,show inB (hasQ 19) 105=true by decide +kernel,show inB (hasQ 19) 66=false by decide +kernel,show inB (hasQ 19) 116=false by decide +kernel,show inB (hasQ 19) 108=false by decide +kernel,show inB (hasQ 19) 121=false by decide +kernel,show inB (hasQ 19) 100=false by decide +kernel,show inB (hasQ 19) 114=false by decide +kernel,show inB (hasQ 19) 103=false by decide +kernel,show inB (hasQ 19) 110=false by decide +kernel,show inB (hasQ 19) 78=false by decide +kernel,show inB (hasQ 19) 97=false by decide +kernel,show inB (hasQ 19) 112=false by decide +kernel,show inB (hasQ 19) 109=false by decide +kernel,show inB (hasQ 19) 102=false by decide +kernel,show inB (hasQ 19) 120=false by decide +kernel,show ydU 19=1 from rfl,show ∀ l,lockK 19 l=true from λ_=>rfl,show ∀ f,fromK 19 f=(ybf f.1&&(keyB f.2.1&&decide (f.2.2.1≥1))) from λ_=>rfl,if_true,if_false,Bool.false_eq_true,yb2,yc3,ydH,ydd,beq_self_eq_true,Bool.true_and,Bool.and_true,Bool.not_false,List.length_nil,c00,show decide ((1:Int)≤19)=true from rfl,show decide ((19:Int)≤22)=true from rfl,show ((21:Int)≤19)=False from eq_false (by decide)]
  revert hbn
  try generalize eqS y ⟨#[]⟩=x0
  try generalize (i==0)=x1
  try generalize (((bo.length:Nat):Int)==0)=x2
  try generalize (((tg.length:Nat):Int)==0)=x3
  try generalize eqD yaT l _=x4
  try generalize eqD yaC d _=x5
  try generalize (((r.length:Nat):Int)==0)=x6
  try generalize (((g.length:Nat):Int)==0)=x7
  try generalize (nu==0)=x8
  try generalize (((ns.length:Nat):Int)==0)=x9
  try generalize eqS af ⟨#[]⟩=x10
  try generalize eqS pr ⟨#[]⟩=x11
  try generalize eqS ma ⟨#[]⟩=x12
  try generalize eqD ya1 fr _=x13
  try generalize (mx==0)=x14
  try generalize keyB y=x15
  try generalize decide (i≥0)=x16
  try generalize decide (i≥1)=x17
  try generalize decide (((bo.length:Nat):Int)≤1024)=x18
  try generalize tagsB tg=x19
  try generalize lockB l=x20
  try generalize l.2.2.1=x21
  try generalize (l.1==0)=x22
  try generalize modeB d=x23
  try generalize ydf r=x24
  try generalize ycv g=x25
  try generalize decide (nu≥1)=x26
  try generalize decide (nu≤10000)=x27
  try generalize decide (((ns.length:Nat):Int)≤16)=x28
  try generalize nameB af=x29
  try generalize nameB pr=x30
  try generalize nameB ma=x31
  try generalize decide (mx≥1)=x32
  try generalize decide (mx≤100)=x33
  try generalize eqS fr.1 ⟨#[]⟩=x34
  try generalize nameB fr.2.1=x35
  try generalize ybf fr.1=x36
  try generalize keyB fr.2.1=x37
  try generalize decide (fr.2.2.1≥1)=x38
  try generalize decide (((w.size:Nat):Int)>64)=x39
  try generalize ydy w=x40
  generalize eqS b ⟨#[]⟩=q1
  generalize ybf b=q2
  clear he hw
  intro hbn
  cases q1<;>cases q2<;>first | exact absurd (hbn rfl) (by decide) | (simp only[Bool.not_false,Bool.not_true,bIf_t,bIf_f,ycI,Bool.true_and,Bool.false_and,Bool.and_false,beq_true,beq_false,Bool.not_not,ydc,Bool.and_true];first | done | simp only[Bool.and_comm,Bool.and_left_comm,Bool.and_assoc])
theorem good_20 {n:Nat}(h3:300≤n)(hn2:n≤536870912)(w:ByteArray)(b:ByteArray)(y:ByteArray)(i:Int)(bo:List Int)(tg:List yak)(l:yan)(q:Bool)(d:yad)(r:List yag)(g:List yac)(nu:Int)(ns:List Int)(af:ByteArray)(pr:ByteArray)(ma:ByteArray)(fr:yaq)(mx:Int)(u:Unit)(he:QB n (20,w,b,y,i,bo,tg,l,q,d,r,g,nu,ns,af,pr,ma,fr,mx,u)):yaL.f n (20,w,b,y,i,bo,tg,l,q,d,r,g,nu,ns,af,pr,ma,fr,mx,u)=some (goodQ (20,w,b,y,i,bo,tg,l,q,d,r,g,nu,ns,af,pr,ma,fr,mx,u),()):=by
  have hw:w.size<n:=he.w
  rw[yaL.e0]
  simp only[yaL.e1,own_20 h3 hn2 w b y i bo tg l q d r g nu ns af pr ma fr mx u he,yeE,ydj (by omega) hw,ybb.e0,ya3 h3,yaZ,bnd_s,Int.reduceBEq,bIf_t,bIf_f,yco]
  have hbn:=ycu b
  unfold goodQ
  simp only[fld,show inB (hasQ 20) 107=true by decide +kernel,show inB (hasQ 20) 105=false by decide +kernel,show inB (hasQ 20) 66=false by decide +kernel,show inB (hasQ 20) 116=false by decide +kernel,show inB (hasQ 20) 108=false by decide +kernel,show inB (hasQ 20) 121=false by decide +kernel,show inB (hasQ 20) 100=false by decide +kernel,show inB (hasQ 20) 114=false by decide +kernel,show inB (hasQ 20) 103=false by decide +kernel,show inB (hasQ 20) 110=false by decide +kernel,show inB (hasQ 20) 78=false by decide +kernel,show inB (hasQ 20) 97=false by decide +kernel,show inB (hasQ 20) 112=false by decide +kernel,show inB (hasQ 20) 109=false by decide +kernel,show inB (hasQ 20) 102=true by decide +kernel,show inB (hasQ 20) 120=false by decide +kernel,show ydU 20=0 from rfl,show ∀ l,lockK 20 l=true from λ_=>rfl,show ∀ f,fromK 20 f=(ybf f.1&&(keyB f.2.1&&decide (f.2.2.1≥1))) from λ_=>rfl,if_true,if_false,Bool.false_eq_true,yb2,yc3,ydH,ydd,beq_self_eq_true,Bool.true_and,Bool.and_true,Bool.not_false,List.length_nil,c00,show decide ((1:Int)≤20)=true from rfl,show decide ((20:Int)≤22)=true from rfl,show ((21:Int)≤20)=False from eq_false (by decide)]
  revert hbn
  try generalize eqS y ⟨#[]⟩=x0
  try generalize (i==0)=x1
  try generalize (((bo.length:Nat):Int)==0)=x2
  try generalize (((tg.length:Nat):Int)==0)=x3
  try generalize eqD yaT l _=x4
  try generalize eqD yaC d _=x5
  try generalize (((r.length:Nat):Int)==0)=x6
  try generalize (((g.length:Nat):Int)==0)=x7
  try generalize (nu==0)=x8
  try generalize (((ns.length:Nat):Int)==0)=x9
  try generalize eqS af ⟨#[]⟩=x10
  try generalize eqS pr ⟨#[]⟩=x11
  try generalize eqS ma ⟨#[]⟩=x12
  try generalize eqD ya1 fr _=x13
  try generalize (mx==0)=x14
  try generalize keyB y=x15
  try generalize decide (i≥0)=x16
  try generalize decide (i≥1)=x17
  try generalize decide (((bo.length:Nat):Int)≤1024)=x18
  try generalize tagsB tg=x19
  try generalize lockB l=x20
  try generalize l.2.2.1=x21
  try generalize (l.1==0)=x22
  try generalize modeB d=x23
  try generalize ydf r=x24
  try generalize ycv g=x25
  try generalize decide (nu≥1)=x26
  try generalize decide (nu≤10000)=x27
  try generalize decide (((ns.length:Nat):Int)≤16)=x28
  try generalize nameB af=x29
  try generalize nameB pr=x30
  try generalize nameB ma=x31
  try generalize decide (mx≥1)=x32
  try generalize decide (mx≤100)=x33
  try generalize eqS fr.1 ⟨#[]⟩=x34
  try generalize nameB fr.2.1=x35
  try generalize ybf fr.1=x36
  try generalize keyB fr.2.1=x37
  try generalize decide (fr.2.2.1≥1)=x38
  try generalize decide (((w.size:Nat):Int)>64)=x39
  try generalize ydy w=x40
  generalize eqS b ⟨#[]⟩=q1
  generalize ybf b=q2
  clear he hw
  intro hbn
  cases q1<;>cases q2<;>first | exact absurd (hbn rfl) (by decide) | (simp only[Bool.not_false,Bool.not_true,bIf_t,bIf_f,ycI,Bool.true_and,Bool.false_and,Bool.and_false,beq_true,beq_false,Bool.not_not,ydc,Bool.and_true];first | done | simp only[Bool.and_comm,Bool.and_left_comm,Bool.and_assoc])
theorem good_21 {n:Nat}(h3:300≤n)(hn2:n≤536870912)(w:ByteArray)(b:ByteArray)(y:ByteArray)(i:Int)(bo:List Int)(tg:List yak)(l:yan)(q:Bool)(d:yad)(r:List yag)(g:List yac)(nu:Int)(ns:List Int)(af:ByteArray)(pr:ByteArray)(ma:ByteArray)(fr:yaq)(mx:Int)(u:Unit)(he:QB n (21,w,b,y,i,bo,tg,l,q,d,r,g,nu,ns,af,pr,ma,fr,mx,u)):yaL.f n (21,w,b,y,i,bo,tg,l,q,d,r,g,nu,ns,af,pr,ma,fr,mx,u)=some (goodQ (21,w,b,y,i,bo,tg,l,q,d,r,g,nu,ns,af,pr,ma,fr,mx,u),()):=by
  have hw:w.size<n:=he.w
  rw[yaL.e0]
  simp only[yaL.e1,own_21 h3 hn2 w b y i bo tg l q d r g nu ns af pr ma fr mx u he,yeE,ydj (by omega) hw,ybb.e0,ya3 h3,yaZ,bnd_s,Int.reduceBEq,bIf_t,bIf_f,yco]
  have hbn:=ycu b
  unfold goodQ
  simp only[fld,show inB (hasQ 21) 107=false by decide +kernel,show inB (hasQ 21) 105=false by decide +kernel,show inB (hasQ 21) 66=false by decide +kernel,show inB (hasQ 21) 116=false by decide +kernel,show inB (hasQ 21) 108=false by decide +kernel,show inB (hasQ 21) 121=false by decide +kernel,show inB (hasQ 21) 100=false by decide +kernel,show inB (hasQ 21) 114=false by decide +kernel,show inB (hasQ 21) 103=false by decide +kernel,show inB (hasQ 21) 110=false by decide +kernel,show inB (hasQ 21) 78=false by decide +kernel,show inB (hasQ 21) 97=false by decide +kernel,show inB (hasQ 21) 112=false by decide +kernel,show inB (hasQ 21) 109=false by decide +kernel,show inB (hasQ 21) 102=false by decide +kernel,show inB (hasQ 21) 120=false by decide +kernel,show ydU 21=0 from rfl,show ∀ l,lockK 21 l=true from λ_=>rfl,show ∀ f,fromK 21 f=(ybf f.1&&(keyB f.2.1&&decide (f.2.2.1≥1))) from λ_=>rfl,if_true,if_false,Bool.false_eq_true,yb2,yc3,ydH,ydd,beq_self_eq_true,Bool.true_and,Bool.and_true,Bool.not_false,List.length_nil,c00,show decide ((1:Int)≤21)=true from rfl,show decide ((21:Int)≤22)=true from rfl,show ((21:Int)≤21)=True from eq_true (by decide)]
  revert hbn
  try generalize eqS y ⟨#[]⟩=x0
  try generalize (i==0)=x1
  try generalize (((bo.length:Nat):Int)==0)=x2
  try generalize (((tg.length:Nat):Int)==0)=x3
  try generalize eqD yaT l _=x4
  try generalize eqD yaC d _=x5
  try generalize (((r.length:Nat):Int)==0)=x6
  try generalize (((g.length:Nat):Int)==0)=x7
  try generalize (nu==0)=x8
  try generalize (((ns.length:Nat):Int)==0)=x9
  try generalize eqS af ⟨#[]⟩=x10
  try generalize eqS pr ⟨#[]⟩=x11
  try generalize eqS ma ⟨#[]⟩=x12
  try generalize eqD ya1 fr _=x13
  try generalize (mx==0)=x14
  try generalize keyB y=x15
  try generalize decide (i≥0)=x16
  try generalize decide (i≥1)=x17
  try generalize decide (((bo.length:Nat):Int)≤1024)=x18
  try generalize tagsB tg=x19
  try generalize lockB l=x20
  try generalize l.2.2.1=x21
  try generalize (l.1==0)=x22
  try generalize modeB d=x23
  try generalize ydf r=x24
  try generalize ycv g=x25
  try generalize decide (nu≥1)=x26
  try generalize decide (nu≤10000)=x27
  try generalize decide (((ns.length:Nat):Int)≤16)=x28
  try generalize nameB af=x29
  try generalize nameB pr=x30
  try generalize nameB ma=x31
  try generalize decide (mx≥1)=x32
  try generalize decide (mx≤100)=x33
  try generalize eqS fr.1 ⟨#[]⟩=x34
  try generalize nameB fr.2.1=x35
  try generalize ybf fr.1=x36
  try generalize keyB fr.2.1=x37
  try generalize decide (fr.2.2.1≥1)=x38
  try generalize decide (((w.size:Nat):Int)>64)=x39
  try generalize ydy w=x40
  generalize eqS b ⟨#[]⟩=q1
  generalize ybf b=q2
  clear he hw
  intro hbn
  cases q1<;>cases q2<;>first | exact absurd (hbn rfl) (by decide) | (simp only[Bool.not_false,Bool.not_true,bIf_t,bIf_f,ycI,Bool.true_and,Bool.false_and,Bool.and_false,beq_true,beq_false,Bool.not_not,ydc,Bool.and_true];first | done | simp only[Bool.and_comm,Bool.and_left_comm,Bool.and_assoc])
theorem good_22 {n:Nat}(h3:300≤n)(hn2:n≤536870912)(w:ByteArray)(b:ByteArray)(y:ByteArray)(i:Int)(bo:List Int)(tg:List yak)(l:yan)(q:Bool)(d:yad)(r:List yag)(g:List yac)(nu:Int)(ns:List Int)(af:ByteArray)(pr:ByteArray)(ma:ByteArray)(fr:yaq)(mx:Int)(u:Unit)(he:QB n (22,w,b,y,i,bo,tg,l,q,d,r,g,nu,ns,af,pr,ma,fr,mx,u)):yaL.f n (22,w,b,y,i,bo,tg,l,q,d,r,g,nu,ns,af,pr,ma,fr,mx,u)=some (goodQ (22,w,b,y,i,bo,tg,l,q,d,r,g,nu,ns,af,pr,ma,fr,mx,u),()):=by
  have hw:w.size<n:=he.w
  rw[yaL.e0]
  simp only[yaL.e1,own_22 h3 hn2 w b y i bo tg l q d r g nu ns af pr ma fr mx u he,yeE,ydj (by omega) hw,ybb.e0,ya3 h3,yaZ,bnd_s,Int.reduceBEq,bIf_t,bIf_f,yco]
  have hbn:=ycu b
  unfold goodQ
  simp only[fld,show inB (hasQ 22) 107=false by decide +kernel,show inB (hasQ 22) 105=false by decide +kernel,show inB (hasQ 22) 66=false by decide +kernel,show inB (hasQ 22) 116=false by decide +kernel,show inB (hasQ 22) 108=false by decide +kernel,show inB (hasQ 22) 121=false by decide +kernel,show inB (hasQ 22) 100=false by decide +kernel,show inB (hasQ 22) 114=false by decide +kernel,show inB (hasQ 22) 103=false by decide +kernel,show inB (hasQ 22) 110=false by decide +kernel,show inB (hasQ 22) 78=false by decide +kernel,show inB (hasQ 22) 97=false by decide +kernel,show inB (hasQ 22) 112=false by decide +kernel,show inB (hasQ 22) 109=false by decide +kernel,show inB (hasQ 22) 102=false by decide +kernel,show inB (hasQ 22) 120=false by decide +kernel,show ydU 22=0 from rfl,show ∀ l,lockK 22 l=true from λ_=>rfl,show ∀ f,fromK 22 f=(ybf f.1&&(keyB f.2.1&&decide (f.2.2.1≥1))) from λ_=>rfl,if_true,if_false,Bool.false_eq_true,yb2,yc3,ydH,ydd,beq_self_eq_true,Bool.true_and,Bool.and_true,Bool.not_false,List.length_nil,c00,show decide ((1:Int)≤22)=true from rfl,show decide ((22:Int)≤22)=true from rfl,show ((21:Int)≤22)=True from eq_true (by decide)]
  revert hbn
  try generalize eqS y ⟨#[]⟩=x0
  try generalize (i==0)=x1
  try generalize (((bo.length:Nat):Int)==0)=x2
  try generalize (((tg.length:Nat):Int)==0)=x3
  try generalize eqD yaT l _=x4
  try generalize eqD yaC d _=x5
  try generalize (((r.length:Nat):Int)==0)=x6
  try generalize (((g.length:Nat):Int)==0)=x7
  try generalize (nu==0)=x8
  try generalize (((ns.length:Nat):Int)==0)=x9
  try generalize eqS af ⟨#[]⟩=x10
  try generalize eqS pr ⟨#[]⟩=x11
  try generalize eqS ma ⟨#[]⟩=x12
  try generalize eqD ya1 fr _=x13
  try generalize (mx==0)=x14
  try generalize keyB y=x15
  try generalize decide (i≥0)=x16
  try generalize decide (i≥1)=x17
  try generalize decide (((bo.length:Nat):Int)≤1024)=x18
  try generalize tagsB tg=x19
  try generalize lockB l=x20
  try generalize l.2.2.1=x21
  try generalize (l.1==0)=x22
  try generalize modeB d=x23
  try generalize ydf r=x24
  try generalize ycv g=x25
  try generalize decide (nu≥1)=x26
  try generalize decide (nu≤10000)=x27
  try generalize decide (((ns.length:Nat):Int)≤16)=x28
  try generalize nameB af=x29
  try generalize nameB pr=x30
  try generalize nameB ma=x31
  try generalize decide (mx≥1)=x32
  try generalize decide (mx≤100)=x33
  try generalize eqS fr.1 ⟨#[]⟩=x34
  try generalize nameB fr.2.1=x35
  try generalize ybf fr.1=x36
  try generalize keyB fr.2.1=x37
  try generalize decide (fr.2.2.1≥1)=x38
  try generalize decide (((w.size:Nat):Int)>64)=x39
  try generalize ydy w=x40
  generalize eqS b ⟨#[]⟩=q1
  generalize ybf b=q2
  clear he hw
  intro hbn
  cases q1<;>cases q2<;>first | exact absurd (hbn rfl) (by decide) | (simp only[Bool.not_false,Bool.not_true,bIf_t,bIf_f,ycI,Bool.true_and,Bool.false_and,Bool.and_false,beq_true,beq_false,Bool.not_not,ydc,Bool.and_true];first | done | simp only[Bool.and_comm,Bool.and_left_comm,Bool.and_assoc])
end Go.Proofs.YtcpkhpboemfglaaGreatDoor

namespace Go.Proofs.YtcpkhpboemfglaaGreatDoor
open Go Go.Va Go.Proofs
theorem ydI {n:Nat}{s:ByteArray}(hs:s.size<8)(hn:300≤n)(c:Nat)(hc:c<256):yaV.f n s (c:Int)=some (inB s c,()):=by
  have hl:s.data.toList.length=s.size:=rfl
  have:=all_loop (l:=s.data.toList) 0 (λb=>!decide (b=UInt8.ofNat c)) (λm k=>yaV.J1 n m (s,(c:Int),k,())) (some (false,())) (some (true,()))
    (λm k hk=>by
      try dsimp only
      rw[yaV.e1,yaB,decide_eq_true (by omega),yaR,yaP ⟨by omega,by omega⟩,bt_nat,yaB,u8_eq hc,ybU k (by omega)]
      cases decide (_=UInt8.ofNat c)<;>rfl)
    (λm=>by
      try dsimp only
      rw[yaV.e1,yaB,decide_eq_false (by omega),yaA,yaV.e2]) n 0 (by omega) (by omega)
  rw[yaV.e0]
  try dsimp only at this
  rw[show ((0:Nat):Int)=0 from rfl]at this
  rw[this,List.drop_zero]
  unfold inB
  rw[← List.not_any_eq_all_not]
  cases List.any _ _<;>rfl
theorem ref24_name {n:Nat}(h3:300≤n)(hn2:n≤536870912){s:ByteArray}(h:s.size<n):ycT.f n s=some (nameB s,()):=by
  rw[ycT.e0,clean44 (by omega) h (by omega)]
  simp only[yaB,yaf,yco]
  rw[show (200:Int)=((200:Nat):Int) from rfl,dec_cast];rfl
theorem emp3 {n:Nat}(h3:300≤n){o:ByteArray}(ho:o.size<8)(A:Q)(a:Bool):yci.J3 n (o,a,A,())=some (a&&((inB o 112||eqS A.2.2.2.2.2.2.2.2.2.2.2.2.2.2.2.1 ⟨#[]⟩)&&((inB o 109||eqS A.2.2.2.2.2.2.2.2.2.2.2.2.2.2.2.2.1 ⟨#[]⟩)&&((inB o 102||eqD ya1 A.2.2.2.2.2.2.2.2.2.2.2.2.2.2.2.2.2.1 spotZ)&&((inB o 120||(A.2.2.2.2.2.2.2.2.2.2.2.2.2.2.2.2.2.2.1==0)))))),()):=by
  have i0:=ydI (s:=o) ho h3 112 (by decide)
  have i1:=ydI (s:=o) ho h3 109 (by decide)
  have i2:=ydI (s:=o) ho h3 102 (by decide)
  have i3:=ydI (s:=o) ho h3 120 (by decide)
  rw[yci.e3]
  simp only[show (112:Int)=((112:Nat):Int) from rfl,show (109:Int)=((109:Nat):Int) from rfl,show (102:Int)=((102:Nat):Int) from rfl,show (120:Int)=((120:Nat):Int) from rfl,i0,i1,i2,i3,bnd_s,yaZ]
  generalize inB o 112=x0
  generalize eqS A.2.2.2.2.2.2.2.2.2.2.2.2.2.2.2.1 ⟨#[]⟩=z0
  generalize inB o 109=x1
  generalize eqS A.2.2.2.2.2.2.2.2.2.2.2.2.2.2.2.2.1 ⟨#[]⟩=z1
  generalize inB o 102=x2
  generalize eqD ya1 A.2.2.2.2.2.2.2.2.2.2.2.2.2.2.2.2.2.1 _=z2
  generalize inB o 120=x3
  generalize (A.2.2.2.2.2.2.2.2.2.2.2.2.2.2.2.2.2.2.1==0)=z3
  cases a<;>cases x0<;>cases z0<;>cases x1<;>cases z1<;>cases x2<;>cases z2<;>cases x3<;>cases z3<;>rfl
theorem emp2 {n:Nat}(h3:300≤n){o:ByteArray}(ho:o.size<8)(A:Q)(a:Bool):yci.J2 n (o,a,A,())=yci.J3 n (o,a&&((inB o 103||(((A.2.2.2.2.2.2.2.2.2.2.2.1.length:Nat):Int)==0))&&((inB o 110||(A.2.2.2.2.2.2.2.2.2.2.2.2.1==0))&&((inB o 78||(((A.2.2.2.2.2.2.2.2.2.2.2.2.2.1.length:Nat):Int)==0))&&((inB o 97||eqS A.2.2.2.2.2.2.2.2.2.2.2.2.2.2.1 ⟨#[]⟩))))),A,()):=by
  have i0:=ydI (s:=o) ho h3 103 (by decide)
  have i1:=ydI (s:=o) ho h3 110 (by decide)
  have i2:=ydI (s:=o) ho h3 78 (by decide)
  have i3:=ydI (s:=o) ho h3 97 (by decide)
  rw[yci.e2]
  simp only[show (103:Int)=((103:Nat):Int) from rfl,show (110:Int)=((110:Nat):Int) from rfl,show (78:Int)=((78:Nat):Int) from rfl,show (97:Int)=((97:Nat):Int) from rfl,i0,i1,i2,i3,bnd_s,yaZ]
  generalize inB o 103=x0
  generalize (((A.2.2.2.2.2.2.2.2.2.2.2.1.length:Nat):Int)==0)=z0
  generalize inB o 110=x1
  generalize (A.2.2.2.2.2.2.2.2.2.2.2.2.1==0)=z1
  generalize inB o 78=x2
  generalize (((A.2.2.2.2.2.2.2.2.2.2.2.2.2.1.length:Nat):Int)==0)=z2
  generalize inB o 97=x3
  generalize eqS A.2.2.2.2.2.2.2.2.2.2.2.2.2.2.1 ⟨#[]⟩=z3
  cases a<;>cases x0<;>cases z0<;>cases x1<;>cases z1<;>cases x2<;>cases z2<;>cases x3<;>cases z3<;>rfl
theorem emp1 {n:Nat}(h3:300≤n){o:ByteArray}(ho:o.size<8)(A:Q)(a:Bool):yci.J1 n (o,a,A,())=yci.J2 n (o,a&&((inB o 108||eqD yaT A.2.2.2.2.2.2.2.1 lockZ)&&((inB o 121||(!A.2.2.2.2.2.2.2.2.1))&&((inB o 100||eqD yaC A.2.2.2.2.2.2.2.2.2.1 (0,(0,())))&&((inB o 114||(((A.2.2.2.2.2.2.2.2.2.2.1.length:Nat):Int)==0)))))),A,()):=by
  have i0:=ydI (s:=o) ho h3 108 (by decide)
  have i1:=ydI (s:=o) ho h3 121 (by decide)
  have i2:=ydI (s:=o) ho h3 100 (by decide)
  have i3:=ydI (s:=o) ho h3 114 (by decide)
  rw[yci.e1]
  simp only[show (108:Int)=((108:Nat):Int) from rfl,show (121:Int)=((121:Nat):Int) from rfl,show (100:Int)=((100:Nat):Int) from rfl,show (114:Int)=((114:Nat):Int) from rfl,i0,i1,i2,i3,bnd_s,yaZ]
  generalize inB o 108=x0
  generalize eqD yaT A.2.2.2.2.2.2.2.1 _=z0
  generalize inB o 121=x1
  generalize (!A.2.2.2.2.2.2.2.2.1)=z1
  generalize inB o 100=x2
  generalize eqD yaC A.2.2.2.2.2.2.2.2.2.1 _=z2
  generalize inB o 114=x3
  generalize (((A.2.2.2.2.2.2.2.2.2.2.1.length:Nat):Int)==0)=z3
  cases a<;>cases x0<;>cases z0<;>cases x1<;>cases z1<;>cases x2<;>cases z2<;>cases x3<;>cases z3<;>rfl
theorem emp0 {n:Nat}(h3:300≤n){o:ByteArray}(ho:o.size<8)(A:Q):yci.f n A o=yci.J1 n (o,((inB o 107||eqS A.2.2.2.1 ⟨#[]⟩)&&((inB o 105||(A.2.2.2.2.1==0))&&((inB o 66||(((A.2.2.2.2.2.1.length:Nat):Int)==0))&&((inB o 116||(((A.2.2.2.2.2.2.1.length:Nat):Int)==0)))))),A,()):=by
  have i0:=ydI (s:=o) ho h3 107 (by decide)
  have i1:=ydI (s:=o) ho h3 105 (by decide)
  have i2:=ydI (s:=o) ho h3 66 (by decide)
  have i3:=ydI (s:=o) ho h3 116 (by decide)
  rw[yci.e0]
  simp only[show (107:Int)=((107:Nat):Int) from rfl,show (105:Int)=((105:Nat):Int) from rfl,show (66:Int)=((66:Nat):Int) from rfl,show (116:Int)=((116:Nat):Int) from rfl,i0,i1,i2,i3,bnd_s,yaZ]
  generalize inB o 107=x0
  generalize eqS A.2.2.2.1 ⟨#[]⟩=z0
  generalize inB o 105=x1
  generalize (A.2.2.2.2.1==0)=z1
  generalize inB o 66=x2
  generalize (((A.2.2.2.2.2.1.length:Nat):Int)==0)=z2
  generalize inB o 116=x3
  generalize (((A.2.2.2.2.2.2.1.length:Nat):Int)==0)=z3
  cases x0<;>cases z0<;>cases x1<;>cases z1<;>cases x2<;>cases z2<;>cases x3<;>cases z3<;>rfl
theorem gd3 {n:Nat}(h3:300≤n)(hn2:n≤536870912){o:ByteArray}(ho:o.size<8){A:Q}(he:QB n A)(z:Int):ybm.J3 n (o,z,A,())=ybm.J4 n (o,(!inB o 107||keyB A.2.2.2.1)&&(decide (A.2.2.2.2.1≥z)&&(decide (((A.2.2.2.2.2.1.length:Nat):Int)≤1024)&&(tagsB A.2.2.2.2.2.2.1&&(lockB A.2.2.2.2.2.2.2.1&&(modeB A.2.2.2.2.2.2.2.2.2.1&&(ydf A.2.2.2.2.2.2.2.2.2.2.1&&(ycv A.2.2.2.2.2.2.2.2.2.2.2.1))))))),A,()):=by
  have i0:=ydI (s:=o) ho h3 107 (by decide)
  rw[ybm.e3]
  simp only[show (107:Int)=((107:Nat):Int) from rfl,i0,key30 he.y hn2 (by omega),tags38 hn2 (by omega) he.tg,lock37,ref12_Good,ref14_Rules hn2 (by omega) he.r,ref14_Grants hn2 he.g,bnd_s,yaZ]
  generalize inB o 107=x0
  generalize keyB A.2.2.2.1=g0
  generalize decide (A.2.2.2.2.1≥z)=g1
  generalize decide (((A.2.2.2.2.2.1.length:Nat):Int)≤1024)=g2
  generalize tagsB A.2.2.2.2.2.2.1=g3
  generalize lockB A.2.2.2.2.2.2.2.1=g4
  generalize modeB A.2.2.2.2.2.2.2.2.2.1=g5
  generalize ydf A.2.2.2.2.2.2.2.2.2.2.1=g6
  generalize ycv A.2.2.2.2.2.2.2.2.2.2.2.1=g7
  cases x0<;>cases g0<;>cases g1<;>cases g2<;>cases g3<;>cases g4<;>cases g5<;>cases g6<;>cases g7<;>rfl
theorem gd4 {n:Nat}(h3:300≤n)(hn2:n≤536870912){o:ByteArray}(ho:o.size<8){A:Q}(he:QB n A)(a:Bool):ybm.J4 n (o,a,A,())=ybm.J5 n (a&&((!inB o 110||(decide (A.2.2.2.2.2.2.2.2.2.2.2.2.1≥1)&&decide (A.2.2.2.2.2.2.2.2.2.2.2.2.1≤10000)))&&(decide (((A.2.2.2.2.2.2.2.2.2.2.2.2.2.1.length:Nat):Int)≤16)&&(nameB A.2.2.2.2.2.2.2.2.2.2.2.2.2.2.1&&(nameB A.2.2.2.2.2.2.2.2.2.2.2.2.2.2.2.1&&(nameB A.2.2.2.2.2.2.2.2.2.2.2.2.2.2.2.2.1&&((!inB o 120||(decide (A.2.2.2.2.2.2.2.2.2.2.2.2.2.2.2.2.2.2.1≥1)&&decide (A.2.2.2.2.2.2.2.2.2.2.2.2.2.2.2.2.2.2.1≤100))))))))),A,()):=by
  have i0:=ydI (s:=o) ho h3 110 (by decide)
  have i1:=ydI (s:=o) ho h3 120 (by decide)
  rw[ybm.e4]
  simp only[show (110:Int)=((110:Nat):Int) from rfl,show (120:Int)=((120:Nat):Int) from rfl,i0,i1,ref24_name h3 hn2 he.af,ref24_name h3 hn2 he.pr,ref24_name h3 hn2 he.ma,bnd_s,yaZ]
  generalize inB o 110=x0
  generalize inB o 120=x1
  generalize decide (A.2.2.2.2.2.2.2.2.2.2.2.2.1≥1)=g0
  generalize decide (A.2.2.2.2.2.2.2.2.2.2.2.2.1≤10000)=g1
  generalize decide (((A.2.2.2.2.2.2.2.2.2.2.2.2.2.1.length:Nat):Int)≤16)=g2
  generalize nameB A.2.2.2.2.2.2.2.2.2.2.2.2.2.2.1=g3
  generalize nameB A.2.2.2.2.2.2.2.2.2.2.2.2.2.2.2.1=g4
  generalize nameB A.2.2.2.2.2.2.2.2.2.2.2.2.2.2.2.2.1=g5
  generalize decide (A.2.2.2.2.2.2.2.2.2.2.2.2.2.2.2.2.2.2.1≥1)=g6
  generalize decide (A.2.2.2.2.2.2.2.2.2.2.2.2.2.2.2.2.2.2.1≤100)=g7
  cases a<;>cases x0<;>cases x1<;>cases g0<;>cases g1<;>cases g2<;>cases g3<;>cases g4<;>cases g5<;>cases g6<;>cases g7<;>rfl
def exQ (A:Q):Bool:=if A.1=11 then !A.2.2.2.2.2.2.2.1.2.2.1 else if A.1=12 then A.2.2.2.2.2.2.2.1.1==0 else if A.1=15 then eqS A.2.2.2.2.2.2.2.2.2.2.2.2.2.2.2.2.2.1.1 ⟨#[]⟩&&nameB A.2.2.2.2.2.2.2.2.2.2.2.2.2.2.2.2.2.1.2.1 else if A.1=20 then ybf A.2.2.2.2.2.2.2.2.2.2.2.2.2.2.2.2.2.1.1&&(keyB A.2.2.2.2.2.2.2.2.2.2.2.2.2.2.2.2.2.1.2.1&&decide (A.2.2.2.2.2.2.2.2.2.2.2.2.2.2.2.2.2.1.2.2.1≥1)) else true
theorem gd5 {n:Nat}(h3:300≤n)(hn2:n≤536870912){A:Q}(he:QB n A)(a:Bool):ybm.J5 n (a,A,())=some (a&&exQ A,()):=by
  rw[ybm.e5,ref24_name h3 hn2 he.fk,ref06_Bucket h3,key30 he.fk hn2 (by omega)]
  simp only[bnd_s,yaZ]
  unfold exQ
  simp only[show ∀ z:Int,(A.1==z)=decide (A.1=z) from λ_=>rfl]
  by_cases c1:A.1=11
  · rw[if_pos c1,decide_eq_true c1,bIf_t,yco]
  rw[if_neg c1,decide_eq_false c1,bIf_f]
  by_cases c2:A.1=12
  · rw[if_pos c2,decide_eq_true c2,bIf_t,yco]
  rw[if_neg c2,decide_eq_false c2,bIf_f]
  by_cases c3:A.1=15
  · rw[if_pos c3,decide_eq_true c3,bIf_t,yco,yco]
  rw[if_neg c3,decide_eq_false c3,bIf_f]
  by_cases c4:A.1=20
  · rw[if_pos c4,decide_eq_true c4,bIf_t,yco,yco,yco]
  rw[if_neg c4,decide_eq_false c4,bIf_f,Bool.and_true]
theorem nameB_nil:nameB ⟨#[]⟩=true:=by decide +kernel
theorem zg_len {m:Nat}{c:Int}(hc:0≤c)(h:(((m:Nat):Int)==0)=true):decide (((m:Nat):Int)≤c)=true:=by rw[beq_iff_eq]at h;exact decide_eq_true (by omega)
theorem zg_t {l:List yak}(h:(((l.length:Nat):Int)==0)=true):tagsB l=true:=by rw[len0 h];rfl
theorem zg_r {l:List yag}(h:(((l.length:Nat):Int)==0)=true):ydf l=true:=by rw[len0 h];rfl
theorem zg_g {l:List yac}(h:(((l.length:Nat):Int)==0)=true):ycv l=true:=by rw[len0 h];rfl
theorem zg_l {l:yan}(h:eqD yaT l lockZ=true):lockB l=true:=by rw[yeT h];decide
theorem zg_d {d:yad}(h:eqD yaC d (0,(0,()))=true):modeB d=true:=by rw[defEq h];decide
theorem zg_n {s:ByteArray}(h:eqS s ⟨#[]⟩=true):nameB s=true:=by rw[ybh h];exact nameB_nil
theorem fld_zg {h:ByteArray}{c:Nat}{g z:Bool}(hz:z=true→g=true):fld h c g z=((inB h c||z)&&g):=by
  unfold fld
  cases inB h c<;>cases z<;>cases g<;>first | rfl | exact absurd (hz rfl) (by decide)
theorem fld_nx {h:ByteArray}{c:Nat}{g z:Bool}:fld h c g z=((inB h c||z)&&(!inB h c||g)):=by
  unfold fld
  cases inB h c<;>cases z<;>cases g<;>rfl
theorem fld_tr {h:ByteArray}{c:Nat}{z:Bool}:fld h c true z=(inB h c||z):=by
  unfold fld
  cases inB h c<;>rfl
def frQ (k:Int)(f:yaq):Bool:=if k=15 then eqS f.1 ⟨#[]⟩&&nameB f.2.1 else if k=20 then ybf f.1&&(keyB f.2.1&&decide (f.2.2.1≥1)) else true
theorem kindQ {k:Int}(hk:1≤k∧k≤22)(l:yan)(f:yaq):(inB (hasQ k) 105=false→ydU k=0)∧(inB (hasQ k) 108=false→lockK k l=true)∧(inB (hasQ k) 102=true→frQ k f=fromK k f)∧(inB (hasQ k) 102=false→frQ k f=true):=by
  have:k=1∨k=2∨k=3∨k=4∨k=5∨k=6∨k=7∨k=8∨k=9∨k=10∨k=11∨k=12∨k=13∨k=14∨k=15∨k=16∨k=17∨k=18∨k=19∨k=20∨k=21∨k=22:=by omega
  rcases this with h | h | h | h | h | h | h | h | h | h | h | h | h | h | h | h | h | h | h | h | h | h<;>subst h<;>refine⟨?_,?_,?_,?_⟩<;>intro hh<;>first | rfl | exact absurd hh (by decide +kernel)
theorem exQ_eq (e:Q):exQ e=(lockK e.1 e.2.2.2.2.2.2.2.1&&frQ e.1 e.2.2.2.2.2.2.2.2.2.2.2.2.2.2.2.2.2.1):=by
  unfold exQ lockK frQ
  by_cases c1:e.1=11
  · rw[if_pos c1,if_pos c1,if_neg (by omega),if_neg (by omega),Bool.and_true]
  rw[if_neg c1,if_neg c1]
  by_cases c2:e.1=12
  · rw[if_pos c2,if_pos c2,if_neg (by omega),if_neg (by omega),Bool.and_true]
  rw[if_neg c2,if_neg c2,Bool.true_and]
theorem ref24_has (n:Nat){k:Int}(hk:1≤k∧k≤22):yd2.f n k=some (hasQ k,()):=by
  have:k=1∨k=2∨k=3∨k=4∨k=5∨k=6∨k=7∨k=8∨k=9∨k=10∨k=11∨k=12∨k=13∨k=14∨k=15∨k=16∨k=17∨k=18∨k=19∨k=20∨k=21∨k=22:=by omega
  rcases this with h | h | h | h | h | h | h | h | h | h | h | h | h | h | h | h | h | h | h | h | h | h<;>subst h<;>(rw[yd2.e0];simp only[yd2.e1,yd2.e2,yaZ,Int.reduceBEq,bIf_t,bIf_f];rfl)
theorem hasQ_size {k:Int}(hk:1≤k∧k≤22):(hasQ k).size<8:=by
  have:k=1∨k=2∨k=3∨k=4∨k=5∨k=6∨k=7∨k=8∨k=9∨k=10∨k=11∨k=12∨k=13∨k=14∨k=15∨k=16∨k=17∨k=18∨k=19∨k=20∨k=21∨k=22:=by omega
  rcases this with h | h | h | h | h | h | h | h | h | h | h | h | h | h | h | h | h | h | h | h | h | h<;>subst h<;>decide +kernel
set_option maxHeartbeats 4000000 in
theorem ref24_Good {n:Nat} (h3:300≤n) (hn2:n≤536870912) {e:Q} (he:QB n e):ybm.f n e=some (goodQ e,()):=by
  by_cases hk:1≤e.1∧e.1≤22
  · have ho:=hasQ_size hk
    have hw:=he.w
    obtain⟨q1,q2,q3,q4⟩:=kindQ hk e.2.2.2.2.2.2.2.1 e.2.2.2.2.2.2.2.2.2.2.2.2.2.2.2.2.2.1
    have f107:=fld_nx (h:=hasQ e.1) (c:=107) (g:=keyB e.2.2.2.1) (z:=eqS e.2.2.2.1 ⟨#[]⟩)
    have f110:=fld_nx (h:=hasQ e.1) (c:=110) (g:=decide (e.2.2.2.2.2.2.2.2.2.2.2.2.1≥1)&&decide (e.2.2.2.2.2.2.2.2.2.2.2.2.1≤10000)) (z:=(e.2.2.2.2.2.2.2.2.2.2.2.2.1==0))
    have f120:=fld_nx (h:=hasQ e.1) (c:=120) (g:=decide (e.2.2.2.2.2.2.2.2.2.2.2.2.2.2.2.2.2.2.1≥1)&&decide (e.2.2.2.2.2.2.2.2.2.2.2.2.2.2.2.2.2.2.1≤100)) (z:=(e.2.2.2.2.2.2.2.2.2.2.2.2.2.2.2.2.2.2.1==0))
    have f121:=fld_tr (h:=hasQ e.1) (c:=121) (z:=(!e.2.2.2.2.2.2.2.2.1))
    have f66:=fld_zg (h:=hasQ e.1) (c:=66) (zg_len (m:=e.2.2.2.2.2.1.length) (c:=1024) (by decide))
    have f116:=fld_zg (h:=hasQ e.1) (c:=116) (zg_t (l:=e.2.2.2.2.2.2.1))
    have f100:=fld_zg (h:=hasQ e.1) (c:=100) (zg_d (d:=e.2.2.2.2.2.2.2.2.2.1))
    have f114:=fld_zg (h:=hasQ e.1) (c:=114) (zg_r (l:=e.2.2.2.2.2.2.2.2.2.2.1))
    have f103:=fld_zg (h:=hasQ e.1) (c:=103) (zg_g (l:=e.2.2.2.2.2.2.2.2.2.2.2.1))
    have f78:=fld_zg (h:=hasQ e.1) (c:=78) (zg_len (m:=e.2.2.2.2.2.2.2.2.2.2.2.2.2.1.length) (c:=16) (by decide))
    have f97:=fld_zg (h:=hasQ e.1) (c:=97) (zg_n (s:=e.2.2.2.2.2.2.2.2.2.2.2.2.2.2.1))
    have f112:=fld_zg (h:=hasQ e.1) (c:=112) (zg_n (s:=e.2.2.2.2.2.2.2.2.2.2.2.2.2.2.2.1))
    have f109:=fld_zg (h:=hasQ e.1) (c:=109) (zg_n (s:=e.2.2.2.2.2.2.2.2.2.2.2.2.2.2.2.2.1))
    have f105:fld (hasQ e.1) 105 (decide (e.2.2.2.2.1≥ydU e.1)) ((e.2.2.2.2.1==0))=((inB (hasQ e.1) 105||(e.2.2.2.2.1==0))&&(decide (e.2.2.2.2.1≥ydU e.1))):=by
      unfold fld
      cases hi:inB (hasQ e.1) 105
      · rw[q1 hi]
        cases hz:(e.2.2.2.2.1==0)
        · rfl
        · rw[decide_eq_true (by have:=beq_iff_eq.1 hz;omega)];rfl
      · rfl
    have f108:fld (hasQ e.1) 108 (lockB e.2.2.2.2.2.2.2.1&&lockK e.1 e.2.2.2.2.2.2.2.1) (eqD yaT e.2.2.2.2.2.2.2.1 lockZ)=((inB (hasQ e.1) 108||eqD yaT e.2.2.2.2.2.2.2.1 lockZ)&&(lockB e.2.2.2.2.2.2.2.1&&lockK e.1 e.2.2.2.2.2.2.2.1)):=by
      unfold fld
      cases hi:inB (hasQ e.1) 108
      · rw[q2 hi]
        cases hz:eqD yaT e.2.2.2.2.2.2.2.1 lockZ
        · rfl
        · rw[zg_l hz];rfl
      · rfl
    have f102:fld (hasQ e.1) 102 (fromK e.1 e.2.2.2.2.2.2.2.2.2.2.2.2.2.2.2.2.2.1) (eqD ya1 e.2.2.2.2.2.2.2.2.2.2.2.2.2.2.2.2.2.1 spotZ)=((inB (hasQ e.1) 102||eqD ya1 e.2.2.2.2.2.2.2.2.2.2.2.2.2.2.2.2.2.1 spotZ)&&frQ e.1 e.2.2.2.2.2.2.2.2.2.2.2.2.2.2.2.2.2.1):=by
      unfold fld
      cases hi:inB (hasQ e.1) 102
      · rw[q4 hi,Bool.and_true];rfl
      · rw[q3 hi];rfl
    have e2:ybm.J2 n (e,())=some (fld (hasQ e.1) 107 (keyB e.2.2.2.1) (eqS e.2.2.2.1 ⟨#[]⟩)&&(fld (hasQ e.1) 105 (decide (e.2.2.2.2.1≥ydU e.1)) ((e.2.2.2.2.1==0))&&(fld (hasQ e.1) 66 (decide (((e.2.2.2.2.2.1.length:Nat):Int)≤1024)) ((((e.2.2.2.2.2.1.length:Nat):Int)==0))&&(fld (hasQ e.1) 116 (tagsB e.2.2.2.2.2.2.1) ((((e.2.2.2.2.2.2.1.length:Nat):Int)==0))&&(fld (hasQ e.1) 108 (lockB e.2.2.2.2.2.2.2.1&&lockK e.1 e.2.2.2.2.2.2.2.1) (eqD yaT e.2.2.2.2.2.2.2.1 lockZ)&&(fld (hasQ e.1) 121 (true) ((!e.2.2.2.2.2.2.2.2.1))&&(fld (hasQ e.1) 100 (modeB e.2.2.2.2.2.2.2.2.2.1) (eqD yaC e.2.2.2.2.2.2.2.2.2.1 (0,(0,())))&&(fld (hasQ e.1) 114 (ydf e.2.2.2.2.2.2.2.2.2.2.1) ((((e.2.2.2.2.2.2.2.2.2.2.1.length:Nat):Int)==0))&&(fld (hasQ e.1) 103 (ycv e.2.2.2.2.2.2.2.2.2.2.2.1) ((((e.2.2.2.2.2.2.2.2.2.2.2.1.length:Nat):Int)==0))&&(fld (hasQ e.1) 110 (decide (e.2.2.2.2.2.2.2.2.2.2.2.2.1≥1)&&decide (e.2.2.2.2.2.2.2.2.2.2.2.2.1≤10000)) ((e.2.2.2.2.2.2.2.2.2.2.2.2.1==0))&&(fld (hasQ e.1) 78 (decide (((e.2.2.2.2.2.2.2.2.2.2.2.2.2.1.length:Nat):Int)≤16)) ((((e.2.2.2.2.2.2.2.2.2.2.2.2.2.1.length:Nat):Int)==0))&&(fld (hasQ e.1) 97 (nameB e.2.2.2.2.2.2.2.2.2.2.2.2.2.2.1) (eqS e.2.2.2.2.2.2.2.2.2.2.2.2.2.2.1 ⟨#[]⟩)&&(fld (hasQ e.1) 112 (nameB e.2.2.2.2.2.2.2.2.2.2.2.2.2.2.2.1) (eqS e.2.2.2.2.2.2.2.2.2.2.2.2.2.2.2.1 ⟨#[]⟩)&&(fld (hasQ e.1) 109 (nameB e.2.2.2.2.2.2.2.2.2.2.2.2.2.2.2.2.1) (eqS e.2.2.2.2.2.2.2.2.2.2.2.2.2.2.2.2.1 ⟨#[]⟩)&&(fld (hasQ e.1) 102 (fromK e.1 e.2.2.2.2.2.2.2.2.2.2.2.2.2.2.2.2.2.1) (eqD ya1 e.2.2.2.2.2.2.2.2.2.2.2.2.2.2.2.2.2.1 spotZ)&&(fld (hasQ e.1) 120 (decide (e.2.2.2.2.2.2.2.2.2.2.2.2.2.2.2.2.2.2.1≥1)&&decide (e.2.2.2.2.2.2.2.2.2.2.2.2.2.2.2.2.2.2.1≤100)) ((e.2.2.2.2.2.2.2.2.2.2.2.2.2.2.2.2.2.2.1==0))))))))))))))))),()):=by
      rw[f107,f105,f66,f116,f108,f121,f100,f114,f103,f110,f78,f97,f112,f109,f102,f120]
      clear f107 f105 f66 f116 f108 f121 f100 f114 f103 f110 f78 f97 f112 f109 f102 f120
      have hl:∀ (J:Int→Option ybm.R),bIf (e.1==10) (J 1) (bIf (e.1==17) (J 1) (bIf (e.1==18) (J 1) (bIf (e.1==19) (J 1) (J 0))))=J (ydU e.1):=by
        intro J
        simp only[show ∀ z:Int,(e.1==z)=decide (e.1=z) from λ_=>rfl]
        unfold ydU
        by_cases c1:e.1=10
        · rw[decide_eq_true c1,if_pos (by omega),bIf_t]
        by_cases c2:e.1=17
        · rw[decide_eq_false c1,bIf_f,decide_eq_true c2,if_pos (by omega),bIf_t]
        by_cases c3:e.1=18
        · rw[decide_eq_false c1,bIf_f,decide_eq_false c2,bIf_f,decide_eq_true c3,if_pos (by omega),bIf_t]
        by_cases c4:e.1=19
        · rw[decide_eq_false c1,bIf_f,decide_eq_false c2,bIf_f,decide_eq_false c3,bIf_f,decide_eq_true c4,if_pos (by omega),bIf_t]
        rw[decide_eq_false c1,bIf_f,decide_eq_false c2,bIf_f,decide_eq_false c3,bIf_f,decide_eq_false c4,bIf_f,if_neg (by omega)]
      rw[ybm.e2,ref24_has n hk,bnd_s,emp0 h3 ho e,emp1 h3 ho e,emp2 h3 ho e,emp3 h3 ho e,bnd_s]
      simp only[yaZ]
      rw[hl (λz=>ybm.J3 n (hasQ e.1,z,e,())),gd3 h3 hn2 ho he,gd4 h3 hn2 ho he,gd5 h3 hn2 he,exQ_eq,ycI,Bool.not_not]
      clear hl q1 q2 q3 q4
      generalize inB (hasQ e.1) 107=x107
      generalize inB (hasQ e.1) 105=x105
      generalize inB (hasQ e.1) 66=x66
      generalize inB (hasQ e.1) 116=x116
      generalize inB (hasQ e.1) 108=x108
      generalize inB (hasQ e.1) 121=x121
      generalize inB (hasQ e.1) 100=x100
      generalize inB (hasQ e.1) 114=x114
      generalize inB (hasQ e.1) 103=x103
      generalize inB (hasQ e.1) 110=x110
      generalize inB (hasQ e.1) 78=x78
      generalize inB (hasQ e.1) 97=x97
      generalize inB (hasQ e.1) 112=x112
      generalize inB (hasQ e.1) 109=x109
      generalize inB (hasQ e.1) 102=x102
      generalize inB (hasQ e.1) 120=x120
      generalize eqS e.2.2.2.1 ⟨#[]⟩=z107
      generalize (e.2.2.2.2.1==0)=z105
      generalize (((e.2.2.2.2.2.1.length:Nat):Int)==0)=z66
      generalize (((e.2.2.2.2.2.2.1.length:Nat):Int)==0)=z116
      generalize eqD yaT e.2.2.2.2.2.2.2.1 _=z108
      generalize eqD yaC e.2.2.2.2.2.2.2.2.2.1 _=z100
      generalize (((e.2.2.2.2.2.2.2.2.2.2.1.length:Nat):Int)==0)=z114
      generalize (((e.2.2.2.2.2.2.2.2.2.2.2.1.length:Nat):Int)==0)=z103
      generalize (e.2.2.2.2.2.2.2.2.2.2.2.2.1==0)=z110
      generalize (((e.2.2.2.2.2.2.2.2.2.2.2.2.2.1.length:Nat):Int)==0)=z78
      generalize eqS e.2.2.2.2.2.2.2.2.2.2.2.2.2.2.1 ⟨#[]⟩=z97
      generalize eqS e.2.2.2.2.2.2.2.2.2.2.2.2.2.2.2.1 ⟨#[]⟩=z112
      generalize eqS e.2.2.2.2.2.2.2.2.2.2.2.2.2.2.2.2.1 ⟨#[]⟩=z109
      generalize eqD ya1 e.2.2.2.2.2.2.2.2.2.2.2.2.2.2.2.2.2.1 _=z102
      generalize (e.2.2.2.2.2.2.2.2.2.2.2.2.2.2.2.2.2.2.1==0)=z120
      generalize keyB _=g1
      generalize decide (e.2.2.2.2.1≥_)=g2
      generalize decide (((e.2.2.2.2.2.1.length:Nat):Int)≤1024)=g3
      generalize tagsB _=g4
      generalize lockB _=g5
      generalize lockK _ _=g6
      generalize modeB _=g7
      generalize ydf _=g8
      generalize ycv _=g9
      generalize decide (e.2.2.2.2.2.2.2.2.2.2.2.2.1≥1)=g10
      generalize decide (e.2.2.2.2.2.2.2.2.2.2.2.2.1≤10000)=g11
      generalize decide (((e.2.2.2.2.2.2.2.2.2.2.2.2.2.1.length:Nat):Int)≤16)=g12
      generalize nameB e.2.2.2.2.2.2.2.2.2.2.2.2.2.2.1=g13
      generalize nameB e.2.2.2.2.2.2.2.2.2.2.2.2.2.2.2.1=g14
      generalize nameB e.2.2.2.2.2.2.2.2.2.2.2.2.2.2.2.2.1=g15
      generalize frQ _ _=g16
      generalize decide (e.2.2.2.2.2.2.2.2.2.2.2.2.2.2.2.2.2.2.1≥1)=g17
      generalize decide (e.2.2.2.2.2.2.2.2.2.2.2.2.2.2.2.2.2.2.1≤100)=g18
      ac_rfl
    unfold goodQ
    rw[ybm.e0,clean44 (by omega) hw (by omega)]
    simp only[ybm.e1,ref06_Bucket h3,yaZ,bnd_s]
    rw[e2,decide_eq_false (show ¬ e.1<1 by omega),bIf_f,decide_eq_false (show ¬ e.1>22 by omega),bIf_f,show (decide (1≤e.1)&&decide (e.1≤22))=true by rw[decide_eq_true hk.1,decide_eq_true hk.2];rfl]
    by_cases h21:21≤e.1
    · rw[if_pos h21,decide_eq_true (show e.1≥21 from h21),bIf_t,decide_eq_false (show ¬ e.1<21 by omega),bIf_f]
      simp only[ycI,Bool.not_not,Bool.true_and]
    · rw[if_neg h21,decide_eq_false (show ¬ e.1≥21 from h21),bIf_f,decide_eq_true (show e.1<21 by omega),bIf_t]
      simp only[ycI,Bool.not_not,Bool.true_and]
  · have hz:goodQ e=false:=by
      unfold goodQ
      rw[show (decide (1≤e.1)&&decide (e.1≤22))=false by
        rw[← Bool.decide_and];exact decide_eq_false hk,Bool.false_and]
    rw[hz,ybm.e0,yaB,yaB]
    by_cases h1:e.1<1
    · rw[decide_eq_true h1,yaR]
    · rw[decide_eq_false h1,yaA,decide_eq_true (by omega),yaR]
end Go.Proofs.YtcpkhpboemfglaaGreatDoor

namespace Go.Proofs.YtcpkhpboemfglaaGreatDoor
open Go Go.Va Go.Proofs
theorem acts_Good {n:Nat} (h3:300≤n) (hn2:n≤536870912) {e:Q} (he:QB n e):yaL.f n e=some (goodQ e,()):=by
  by_cases hk:1≤e.1∧e.1≤22
  · obtain⟨k,w,b,y,i,bo,tg,l,q,d,r,g,nu,ns,af,pr,ma,fr,mx,u⟩:=e
    have:k=1∨k=2∨k=3∨k=4∨k=5∨k=6∨k=7∨k=8∨k=9∨k=10∨k=11∨k=12∨k=13∨k=14∨k=15∨k=16∨k=17∨k=18∨k=19∨k=20∨k=21∨k=22:=by
      obtain⟨h1,h2⟩:=hk
      dsimp only at h1 h2
      omega
    rcases this with h | h | h | h | h | h | h | h | h | h | h | h | h | h | h | h | h | h | h | h | h | h<;>subst h
    · exact good_1 h3 hn2 w b y i bo tg l q d r g nu ns af pr ma fr mx u he
    · exact good_2 h3 hn2 w b y i bo tg l q d r g nu ns af pr ma fr mx u he
    · exact good_3 h3 hn2 w b y i bo tg l q d r g nu ns af pr ma fr mx u he
    · exact good_4 h3 hn2 w b y i bo tg l q d r g nu ns af pr ma fr mx u he
    · exact good_5 h3 hn2 w b y i bo tg l q d r g nu ns af pr ma fr mx u he
    · exact good_6 h3 hn2 w b y i bo tg l q d r g nu ns af pr ma fr mx u he
    · exact good_7 h3 hn2 w b y i bo tg l q d r g nu ns af pr ma fr mx u he
    · exact good_8 h3 hn2 w b y i bo tg l q d r g nu ns af pr ma fr mx u he
    · exact good_9 h3 hn2 w b y i bo tg l q d r g nu ns af pr ma fr mx u he
    · exact good_10 h3 hn2 w b y i bo tg l q d r g nu ns af pr ma fr mx u he
    · exact good_11 h3 hn2 w b y i bo tg l q d r g nu ns af pr ma fr mx u he
    · exact good_12 h3 hn2 w b y i bo tg l q d r g nu ns af pr ma fr mx u he
    · exact good_13 h3 hn2 w b y i bo tg l q d r g nu ns af pr ma fr mx u he
    · exact good_14 h3 hn2 w b y i bo tg l q d r g nu ns af pr ma fr mx u he
    · exact good_15 h3 hn2 w b y i bo tg l q d r g nu ns af pr ma fr mx u he
    · exact good_16 h3 hn2 w b y i bo tg l q d r g nu ns af pr ma fr mx u he
    · exact good_17 h3 hn2 w b y i bo tg l q d r g nu ns af pr ma fr mx u he
    · exact good_18 h3 hn2 w b y i bo tg l q d r g nu ns af pr ma fr mx u he
    · exact good_19 h3 hn2 w b y i bo tg l q d r g nu ns af pr ma fr mx u he
    · exact good_20 h3 hn2 w b y i bo tg l q d r g nu ns af pr ma fr mx u he
    · exact good_21 h3 hn2 w b y i bo tg l q d r g nu ns af pr ma fr mx u he
    · exact good_22 h3 hn2 w b y i bo tg l q d r g nu ns af pr ma fr mx u he
  · have hz:goodQ e=false:=by
      unfold goodQ
      rw[show (decide (1≤e.1)&&decide (e.1≤22))=false by
        rw[← Bool.decide_and];exact decide_eq_false hk,Bool.false_and]
    have c1:(e.1==1)=false:=by rw[beq_eq_false_iff_ne];omega
    have c2:(e.1==2)=false:=by rw[beq_eq_false_iff_ne];omega
    have c3:(e.1==3)=false:=by rw[beq_eq_false_iff_ne];omega
    have c4:(e.1==4)=false:=by rw[beq_eq_false_iff_ne];omega
    have c5:(e.1==5)=false:=by rw[beq_eq_false_iff_ne];omega
    have c6:(e.1==6)=false:=by rw[beq_eq_false_iff_ne];omega
    have c7:(e.1==7)=false:=by rw[beq_eq_false_iff_ne];omega
    have c8:(e.1==8)=false:=by rw[beq_eq_false_iff_ne];omega
    have c9:(e.1==9)=false:=by rw[beq_eq_false_iff_ne];omega
    have c10:(e.1==10)=false:=by rw[beq_eq_false_iff_ne];omega
    have c11:(e.1==11)=false:=by rw[beq_eq_false_iff_ne];omega
    have c12:(e.1==12)=false:=by rw[beq_eq_false_iff_ne];omega
    have c13:(e.1==13)=false:=by rw[beq_eq_false_iff_ne];omega
    have c14:(e.1==14)=false:=by rw[beq_eq_false_iff_ne];omega
    have c15:(e.1==15)=false:=by rw[beq_eq_false_iff_ne];omega
    have c16:(e.1==16)=false:=by rw[beq_eq_false_iff_ne];omega
    have c17:(e.1==17)=false:=by rw[beq_eq_false_iff_ne];omega
    have c18:(e.1==18)=false:=by rw[beq_eq_false_iff_ne];omega
    have c19:(e.1==19)=false:=by rw[beq_eq_false_iff_ne];omega
    have c20:(e.1==20)=false:=by rw[beq_eq_false_iff_ne];omega
    have c21:(e.1==21)=false:=by rw[beq_eq_false_iff_ne];omega
    have c22:(e.1==22)=false:=by rw[beq_eq_false_iff_ne];omega
    have how:yae.f n (e,(true,()))=some ((e,(false,())),()):=by
      rw[yae.e0]
      simp only[yae.e1,yae.e2,yae.e3,yaZ,c1,c2,c3,c4,c5,c6,c7,c8,c9,c10,c11,c12,c13,c14,c15,c16,c17,c18,c19,c20,c21,c22,bIf_t,bIf_f,bnd_s,s_may,Bool.and_false]
    have hw:=he.w
    rw[hz,yaL.e0]
    simp only[yaL.e1,how,ydj (by omega) hw,ybb.e0,ya3 h3,yaZ,c21,c22,bnd_s,bIf_t,bIf_f,ydc]
def sameI (x y:Int):Bool:=x==y
def sameQ (a b:Q):Bool:=(a.1==b.1)&&(eqS a.2.1 b.2.1&&(eqS a.2.2.1 b.2.2.1&&(eqS a.2.2.2.1 b.2.2.2.1&&((a.2.2.2.2.1==b.2.2.2.2.1)&&(eqD yaT a.2.2.2.2.2.2.2.1 b.2.2.2.2.2.2.2.1&&((a.2.2.2.2.2.2.2.2.1==b.2.2.2.2.2.2.2.2.1)&&(eqD yaC a.2.2.2.2.2.2.2.2.2.1 b.2.2.2.2.2.2.2.2.2.1&&((a.2.2.2.2.2.2.2.2.2.2.2.2.1==b.2.2.2.2.2.2.2.2.2.2.2.2.1)&&(eqS a.2.2.2.2.2.2.2.2.2.2.2.2.2.2.1 b.2.2.2.2.2.2.2.2.2.2.2.2.2.2.1&&(eqS a.2.2.2.2.2.2.2.2.2.2.2.2.2.2.2.1 b.2.2.2.2.2.2.2.2.2.2.2.2.2.2.2.1&&(eqS a.2.2.2.2.2.2.2.2.2.2.2.2.2.2.2.2.1 b.2.2.2.2.2.2.2.2.2.2.2.2.2.2.2.2.1&&(eqD ya1 a.2.2.2.2.2.2.2.2.2.2.2.2.2.2.2.2.2.1 b.2.2.2.2.2.2.2.2.2.2.2.2.2.2.2.2.2.1&&((a.2.2.2.2.2.2.2.2.2.2.2.2.2.2.2.2.2.2.1==b.2.2.2.2.2.2.2.2.2.2.2.2.2.2.2.2.2.2.1)&&(eqS (ya4 a.2.2.2.2.2.1) (ya4 b.2.2.2.2.2.1)&&(allB sameT a.2.2.2.2.2.2.1 b.2.2.2.2.2.2.1&&(allB sameR a.2.2.2.2.2.2.2.2.2.2.1 b.2.2.2.2.2.2.2.2.2.2.1&&(allB sameG a.2.2.2.2.2.2.2.2.2.2.2.1 b.2.2.2.2.2.2.2.2.2.2.2.1&&(allB sameI a.2.2.2.2.2.2.2.2.2.2.2.2.2.1 b.2.2.2.2.2.2.2.2.2.2.2.2.2.1))))))))))))))))))
theorem slices_Equal_int {n:Nat} (hn:n≤536870912) {a b:List Int} (hlen:a.length<n):ybu.f n a b=some (allB sameI a b,()):=by
  rw[ybu.e0,yaB,ne_len]
  by_cases h:a.length=b.length
  · have:=zip_loop (0:Int) sameI (λm k=>ybu.J1 n m (a,b,((a.length:Nat):Int),k,())) h
      (λm k hk=>by
        try dsimp only
        rw[ybu.e1,yaB,decide_eq_true (by omega),yaR,yaP ⟨by omega,by omega⟩,yaP ⟨by omega,by omega⟩,Int.toNat_natCast,ybU k (by omega),yaB,bne]
        unfold sameI
        generalize ((_:Int)==_)=z;cases z<;>rfl)
      (λm=>by
        try dsimp only
        rw[ybu.e1,yaB,decide_eq_false (by omega),yaA,ybu.e2]) n 0 (by omega) (by omega)
    try dsimp only at this
    rw[show ((0:Nat):Int)=0 from rfl]at this
    rw[decide_eq_true h,Bool.not_true,yaA,this];rfl
  · rw[decide_eq_false h,Bool.not_false,yaR,allB_len a b h]
theorem wire_Same {n:Nat}(h3:300≤n)(hn2:n≤536870912){a b:Q}(ha:QB n a):yd1.f n a b=some (sameQ a b,()):=by
  rw[yd1.e0,yd1.e1,yd1.e2,ybq.e0,same48 hn2 ha.tg.1,entry_SameRules hn2 ha.r,slices_Equal_Grant hn2 ha.g,slices_Equal_int hn2 ha.ns]
  simp only[yaZ,bnd_s,yco,ycI,bne,Bool.not_not]
  rfl
abbrev asE (a:Q):E:=(0,(0,((⟨#[]⟩:ByteArray),((⟨#[]⟩:ByteArray),(0,(verZ,(lockZ,(a.2.2.2.2.2.2.1,((0,(0,())),(a.2.2.2.2.2.2.2.2.2.2.1,(a.2.2.2.2.2.2.2.2.2.2.2.1,(partZ,()))))))))))))
theorem asE_B {n:Nat}(h3:300≤n){a:Q}(ha:QB n a):EB n (asE a):=⟨by change 0<n;omega,by change 0<n;omega,Int.le_refl 0,VBz (by omega),ha.tg,ha.r,ha.g⟩
theorem asE_same (a b:Q):sameE (asE a) (asE b)=(allB sameT a.2.2.2.2.2.2.1 b.2.2.2.2.2.2.1&&(allB sameR a.2.2.2.2.2.2.2.2.2.2.1 b.2.2.2.2.2.2.2.2.2.2.1&&allB sameG a.2.2.2.2.2.2.2.2.2.2.2.1 b.2.2.2.2.2.2.2.2.2.2.2.1)):=by
  unfold sameE
  rw[yb2,yc3,ydH,partRefl,sameV_refl]
  simp only[beq_self_eq_true,Bool.true_and]
theorem ref26_Same {n:Nat} (h3:300≤n) (hn2:n≤536870912) {a b:Q} (ha:QB n a):ybH.f n a b=some (sameQ a b,()):=by
  have hlen:=ha.ns
  have h1 : ybH.J2 n (a,b,())=some (if a.2.2.2.2.2.2.2.2.2.2.2.2.2.1.length=b.2.2.2.2.2.2.2.2.2.2.2.2.2.1.length then allB sameI a.2.2.2.2.2.2.2.2.2.2.2.2.2.1 b.2.2.2.2.2.2.2.2.2.2.2.2.2.1 else true,())∨a.2.2.2.2.2.2.2.2.2.2.2.2.2.1.length≠b.2.2.2.2.2.2.2.2.2.2.2.2.2.1.length:=by
    by_cases h:a.2.2.2.2.2.2.2.2.2.2.2.2.2.1.length=b.2.2.2.2.2.2.2.2.2.2.2.2.2.1.length
    · left
      rw[if_pos h,ybH.e2]
      have:=zip_loop (0:Int) sameI (λm k=>ybH.J3 n m (k,a,b,())) h
        (λm k hk=>by
          try dsimp only
          rw[ybH.e3,yaB,decide_eq_true (by omega),yaR,yaP ⟨by omega,by omega⟩,yaP ⟨by omega,by omega⟩,Int.toNat_natCast,ybU k (by omega),yaB,bne]
          unfold sameI
          generalize ((_:Int)==_)=z;cases z<;>rfl)
        (λm=>by
          try dsimp only
          rw[ybH.e3,yaB,decide_eq_false (by omega),yaA,ybH.e4]) n 0 (by omega) (by omega)
      try dsimp only at this
      rw[show ((0:Nat):Int)=0 from rfl,List.drop_zero,List.drop_zero]at this
      exact this
    · exact .inr h
  have h2:ybH.J1 n (a,b,())=some ((allB sameT a.2.2.2.2.2.2.1 b.2.2.2.2.2.2.1&&(allB sameR a.2.2.2.2.2.2.2.2.2.2.1 b.2.2.2.2.2.2.2.2.2.2.1&&allB sameG a.2.2.2.2.2.2.2.2.2.2.2.1 b.2.2.2.2.2.2.2.2.2.2.2.1))&&allB sameI a.2.2.2.2.2.2.2.2.2.2.2.2.2.1 b.2.2.2.2.2.2.2.2.2.2.2.2.2.1,()):=by
    rw[ybH.e1]
    have:=ref14_Same hn2 (b:=asE b) (asE_B h3 ha)
    rw[asE_same]at this
    change (bnd (yds.f n (asE a) (asE b)) λu1=>bIf (!u1.1) (some (false,())) (bIf (hide _) (some (false,())) (ybH.J2 n (a,b,()))))=_
    rw[this,yaf,yaB,ne_len]
    try dsimp only
    by_cases h:a.2.2.2.2.2.2.2.2.2.2.2.2.2.1.length=b.2.2.2.2.2.2.2.2.2.2.2.2.2.1.length
    · rcases h1 with h1 | h1
      · rw[h1,if_pos h,decide_eq_true h,Bool.not_true,yaA,ycI,Bool.not_not]
      · exact absurd h h1
    · rw[decide_eq_false h,Bool.not_false,yaR,allB_len _ _ h,Bool.and_false,ydc]
  rw[ybH.e0,h2]
  simp only[yaZ,bnd_s,yco,ycI,bne,Bool.not_not]
  unfold sameQ
  generalize (a.1==b.1)=zk
  generalize eqS a.2.1 b.2.1=zw
  generalize eqS a.2.2.1 b.2.2.1=zb
  generalize eqS a.2.2.2.1 b.2.2.2.1=zy
  generalize (a.2.2.2.2.1==b.2.2.2.2.1)=zi
  generalize eqD yaT a.2.2.2.2.2.2.2.1 b.2.2.2.2.2.2.2.1=zl
  generalize (a.2.2.2.2.2.2.2.2.1==b.2.2.2.2.2.2.2.2.1)=zq
  generalize eqD yaC a.2.2.2.2.2.2.2.2.2.1 b.2.2.2.2.2.2.2.2.2.1=zd
  generalize (a.2.2.2.2.2.2.2.2.2.2.2.2.1==b.2.2.2.2.2.2.2.2.2.2.2.2.1)=znu
  generalize eqS a.2.2.2.2.2.2.2.2.2.2.2.2.2.2.1 b.2.2.2.2.2.2.2.2.2.2.2.2.2.2.1=zaf
  generalize eqS a.2.2.2.2.2.2.2.2.2.2.2.2.2.2.2.1 b.2.2.2.2.2.2.2.2.2.2.2.2.2.2.2.1=zpr
  generalize eqS a.2.2.2.2.2.2.2.2.2.2.2.2.2.2.2.2.1 b.2.2.2.2.2.2.2.2.2.2.2.2.2.2.2.2.1=zma
  generalize eqD ya1 a.2.2.2.2.2.2.2.2.2.2.2.2.2.2.2.2.2.1 b.2.2.2.2.2.2.2.2.2.2.2.2.2.2.2.2.2.1=zfr
  generalize (a.2.2.2.2.2.2.2.2.2.2.2.2.2.2.2.2.2.2.1==b.2.2.2.2.2.2.2.2.2.2.2.2.2.2.2.2.2.2.1)=zmx
  generalize eqS (ya4 a.2.2.2.2.2.1) (ya4 b.2.2.2.2.2.1)=zbo
  generalize allB sameT a.2.2.2.2.2.2.1 b.2.2.2.2.2.2.1=ztg
  generalize allB sameR a.2.2.2.2.2.2.2.2.2.2.1 b.2.2.2.2.2.2.2.2.2.2.1=zr
  generalize allB sameG a.2.2.2.2.2.2.2.2.2.2.2.1 b.2.2.2.2.2.2.2.2.2.2.2.1=zg
  generalize allB sameI a.2.2.2.2.2.2.2.2.2.2.2.2.2.1 b.2.2.2.2.2.2.2.2.2.2.2.2.2.1=zns
  simp only[Bool.and_comm,Bool.and_left_comm,Bool.and_assoc]
end Go.Proofs.YtcpkhpboemfglaaGreatDoor

namespace Go.Proofs.YtcpkhpboemfglaaGreatDoor
open Go Go.Va Go.Proofs
def eP (e:Q):List Int:=
  if e.1=1∨e.1=3 then eDef e.2.2.2.2.2.2.2.2.2.1 else if e.1=4 then eRules e.2.2.2.2.2.2.2.2.2.2.1 else if e.1=5 then eGrants e.2.2.2.2.2.2.2.2.2.2.2.1 else if e.1=6 then eT e.2.2.2.1++(eT (ya4 e.2.2.2.2.2.1)++(eTags e.2.2.2.2.2.2.1++(eLock e.2.2.2.2.2.2.2.1))) else if e.1=7∨e.1=8 then eT e.2.2.2.1++(eN e.2.2.2.2.1) else if e.1=9 then eT e.2.2.2.1 else if e.1=10 then eT e.2.2.2.1++(eN e.2.2.2.2.1++(eF e.2.2.2.2.2.2.2.2.1)) else if e.1=11 then eT e.2.2.2.1++(eN e.2.2.2.2.1++(eLock e.2.2.2.2.2.2.2.1++(eF e.2.2.2.2.2.2.2.2.1))) else if e.1=12 then eT e.2.2.2.1++(eN e.2.2.2.2.1++(eLock e.2.2.2.2.2.2.2.1)) else if e.1=13 then eT e.2.2.2.1++(eN e.2.2.2.2.1++(eTags e.2.2.2.2.2.2.1)) else if e.1=14 then eT e.2.2.2.2.2.2.2.2.2.2.2.2.2.2.2.1++(eT e.2.2.2.2.2.2.2.2.2.2.2.2.2.2.2.2.1++(eT e.2.2.2.2.2.2.2.2.2.2.2.2.2.2.1++(eW e.2.2.2.2.2.2.2.2.2.2.2.2.2.2.2.2.2.2.1))) else if e.1=15 then eT e.2.2.2.2.2.2.2.2.2.2.2.2.2.2.2.1++(eT e.2.2.2.2.2.2.2.2.2.2.2.2.2.2.2.2.2.1.2.1++(eN e.2.2.2.2.2.2.2.2.2.2.2.2.2.2.2.2.2.1.2.2.1++(eW e.2.2.2.2.2.2.2.2.2.2.2.2.2.2.2.2.2.2.1))) else if e.1=16 then eT e.2.2.2.1++(eTags e.2.2.2.2.2.2.1) else if e.1=17 then eN e.2.2.2.2.1++(eW e.2.2.2.2.2.2.2.2.2.2.2.2.1++(eT (ya4 e.2.2.2.2.2.1))) else if e.1=18 then eN e.2.2.2.2.1++(eW ((e.2.2.2.2.2.2.2.2.2.2.2.2.2.1.length:Nat):Int)++(e.2.2.2.2.2.2.2.2.2.2.2.2.2.1.flatMap eI)) else if e.1=19 then eN e.2.2.2.2.1 else if e.1=20 then eT e.2.2.2.1++(eT e.2.2.2.2.2.2.2.2.2.2.2.2.2.2.2.2.2.1.1++(eT e.2.2.2.2.2.2.2.2.2.2.2.2.2.2.2.2.2.1.2.1++(eN e.2.2.2.2.2.2.2.2.2.2.2.2.2.2.2.2.2.1.2.2.1))) else []
structure QR (e:Q):Prop where
  i:U64 e.2.2.2.2.1
  l:I64 e.2.2.2.2.2.2.2.1.2.1
  fi:U64 e.2.2.2.2.2.2.2.2.2.2.2.2.2.2.2.2.2.1.2.2.1
  ns:∀ x∈e.2.2.2.2.2.2.2.2.2.2.2.2.2.1,I64 x
theorem eP_1 (w:ByteArray)(b:ByteArray)(y:ByteArray)(i:Int)(bo:List Int)(tg:List yak)(l:yan)(q:Bool)(d:yad)(r:List yag)(g:List yac)(nu:Int)(ns:List Int)(af:ByteArray)(pr:ByteArray)(ma:ByteArray)(fr:yaq)(mx:Int)(u:Unit):eP (1,w,b,y,i,bo,tg,l,q,d,r,g,nu,ns,af,pr,ma,fr,mx,u)=eDef d:=rfl
theorem eP_2 (w:ByteArray)(b:ByteArray)(y:ByteArray)(i:Int)(bo:List Int)(tg:List yak)(l:yan)(q:Bool)(d:yad)(r:List yag)(g:List yac)(nu:Int)(ns:List Int)(af:ByteArray)(pr:ByteArray)(ma:ByteArray)(fr:yaq)(mx:Int)(u:Unit):eP (2,w,b,y,i,bo,tg,l,q,d,r,g,nu,ns,af,pr,ma,fr,mx,u)=[]:=rfl
theorem eP_3 (w:ByteArray)(b:ByteArray)(y:ByteArray)(i:Int)(bo:List Int)(tg:List yak)(l:yan)(q:Bool)(d:yad)(r:List yag)(g:List yac)(nu:Int)(ns:List Int)(af:ByteArray)(pr:ByteArray)(ma:ByteArray)(fr:yaq)(mx:Int)(u:Unit):eP (3,w,b,y,i,bo,tg,l,q,d,r,g,nu,ns,af,pr,ma,fr,mx,u)=eDef d:=rfl
theorem eP_4 (w:ByteArray)(b:ByteArray)(y:ByteArray)(i:Int)(bo:List Int)(tg:List yak)(l:yan)(q:Bool)(d:yad)(r:List yag)(g:List yac)(nu:Int)(ns:List Int)(af:ByteArray)(pr:ByteArray)(ma:ByteArray)(fr:yaq)(mx:Int)(u:Unit):eP (4,w,b,y,i,bo,tg,l,q,d,r,g,nu,ns,af,pr,ma,fr,mx,u)=eRules r:=rfl
theorem eP_5 (w:ByteArray)(b:ByteArray)(y:ByteArray)(i:Int)(bo:List Int)(tg:List yak)(l:yan)(q:Bool)(d:yad)(r:List yag)(g:List yac)(nu:Int)(ns:List Int)(af:ByteArray)(pr:ByteArray)(ma:ByteArray)(fr:yaq)(mx:Int)(u:Unit):eP (5,w,b,y,i,bo,tg,l,q,d,r,g,nu,ns,af,pr,ma,fr,mx,u)=eGrants g:=rfl
theorem eP_6 (w:ByteArray)(b:ByteArray)(y:ByteArray)(i:Int)(bo:List Int)(tg:List yak)(l:yan)(q:Bool)(d:yad)(r:List yag)(g:List yac)(nu:Int)(ns:List Int)(af:ByteArray)(pr:ByteArray)(ma:ByteArray)(fr:yaq)(mx:Int)(u:Unit):eP (6,w,b,y,i,bo,tg,l,q,d,r,g,nu,ns,af,pr,ma,fr,mx,u)=eT y++(eT (ya4 bo)++(eTags tg++(eLock l))):=rfl
theorem eP_7 (w:ByteArray)(b:ByteArray)(y:ByteArray)(i:Int)(bo:List Int)(tg:List yak)(l:yan)(q:Bool)(d:yad)(r:List yag)(g:List yac)(nu:Int)(ns:List Int)(af:ByteArray)(pr:ByteArray)(ma:ByteArray)(fr:yaq)(mx:Int)(u:Unit):eP (7,w,b,y,i,bo,tg,l,q,d,r,g,nu,ns,af,pr,ma,fr,mx,u)=eT y++(eN i):=rfl
theorem eP_8 (w:ByteArray)(b:ByteArray)(y:ByteArray)(i:Int)(bo:List Int)(tg:List yak)(l:yan)(q:Bool)(d:yad)(r:List yag)(g:List yac)(nu:Int)(ns:List Int)(af:ByteArray)(pr:ByteArray)(ma:ByteArray)(fr:yaq)(mx:Int)(u:Unit):eP (8,w,b,y,i,bo,tg,l,q,d,r,g,nu,ns,af,pr,ma,fr,mx,u)=eT y++(eN i):=rfl
theorem eP_9 (w:ByteArray)(b:ByteArray)(y:ByteArray)(i:Int)(bo:List Int)(tg:List yak)(l:yan)(q:Bool)(d:yad)(r:List yag)(g:List yac)(nu:Int)(ns:List Int)(af:ByteArray)(pr:ByteArray)(ma:ByteArray)(fr:yaq)(mx:Int)(u:Unit):eP (9,w,b,y,i,bo,tg,l,q,d,r,g,nu,ns,af,pr,ma,fr,mx,u)=eT y:=rfl
theorem eP_10 (w:ByteArray)(b:ByteArray)(y:ByteArray)(i:Int)(bo:List Int)(tg:List yak)(l:yan)(q:Bool)(d:yad)(r:List yag)(g:List yac)(nu:Int)(ns:List Int)(af:ByteArray)(pr:ByteArray)(ma:ByteArray)(fr:yaq)(mx:Int)(u:Unit):eP (10,w,b,y,i,bo,tg,l,q,d,r,g,nu,ns,af,pr,ma,fr,mx,u)=eT y++(eN i++(eF q)):=rfl
theorem eP_11 (w:ByteArray)(b:ByteArray)(y:ByteArray)(i:Int)(bo:List Int)(tg:List yak)(l:yan)(q:Bool)(d:yad)(r:List yag)(g:List yac)(nu:Int)(ns:List Int)(af:ByteArray)(pr:ByteArray)(ma:ByteArray)(fr:yaq)(mx:Int)(u:Unit):eP (11,w,b,y,i,bo,tg,l,q,d,r,g,nu,ns,af,pr,ma,fr,mx,u)=eT y++(eN i++(eLock l++(eF q))):=rfl
theorem eP_12 (w:ByteArray)(b:ByteArray)(y:ByteArray)(i:Int)(bo:List Int)(tg:List yak)(l:yan)(q:Bool)(d:yad)(r:List yag)(g:List yac)(nu:Int)(ns:List Int)(af:ByteArray)(pr:ByteArray)(ma:ByteArray)(fr:yaq)(mx:Int)(u:Unit):eP (12,w,b,y,i,bo,tg,l,q,d,r,g,nu,ns,af,pr,ma,fr,mx,u)=eT y++(eN i++(eLock l)):=rfl
theorem eP_13 (w:ByteArray)(b:ByteArray)(y:ByteArray)(i:Int)(bo:List Int)(tg:List yak)(l:yan)(q:Bool)(d:yad)(r:List yag)(g:List yac)(nu:Int)(ns:List Int)(af:ByteArray)(pr:ByteArray)(ma:ByteArray)(fr:yaq)(mx:Int)(u:Unit):eP (13,w,b,y,i,bo,tg,l,q,d,r,g,nu,ns,af,pr,ma,fr,mx,u)=eT y++(eN i++(eTags tg)):=rfl
theorem eP_14 (w:ByteArray)(b:ByteArray)(y:ByteArray)(i:Int)(bo:List Int)(tg:List yak)(l:yan)(q:Bool)(d:yad)(r:List yag)(g:List yac)(nu:Int)(ns:List Int)(af:ByteArray)(pr:ByteArray)(ma:ByteArray)(fr:yaq)(mx:Int)(u:Unit):eP (14,w,b,y,i,bo,tg,l,q,d,r,g,nu,ns,af,pr,ma,fr,mx,u)=eT pr++(eT ma++(eT af++(eW mx))):=rfl
theorem eP_15 (w:ByteArray)(b:ByteArray)(y:ByteArray)(i:Int)(bo:List Int)(tg:List yak)(l:yan)(q:Bool)(d:yad)(r:List yag)(g:List yac)(nu:Int)(ns:List Int)(af:ByteArray)(pr:ByteArray)(ma:ByteArray)(fr:yaq)(mx:Int)(u:Unit):eP (15,w,b,y,i,bo,tg,l,q,d,r,g,nu,ns,af,pr,ma,fr,mx,u)=eT pr++(eT fr.2.1++(eN fr.2.2.1++(eW mx))):=rfl
theorem eP_16 (w:ByteArray)(b:ByteArray)(y:ByteArray)(i:Int)(bo:List Int)(tg:List yak)(l:yan)(q:Bool)(d:yad)(r:List yag)(g:List yac)(nu:Int)(ns:List Int)(af:ByteArray)(pr:ByteArray)(ma:ByteArray)(fr:yaq)(mx:Int)(u:Unit):eP (16,w,b,y,i,bo,tg,l,q,d,r,g,nu,ns,af,pr,ma,fr,mx,u)=eT y++(eTags tg):=rfl
theorem eP_17 (w:ByteArray)(b:ByteArray)(y:ByteArray)(i:Int)(bo:List Int)(tg:List yak)(l:yan)(q:Bool)(d:yad)(r:List yag)(g:List yac)(nu:Int)(ns:List Int)(af:ByteArray)(pr:ByteArray)(ma:ByteArray)(fr:yaq)(mx:Int)(u:Unit):eP (17,w,b,y,i,bo,tg,l,q,d,r,g,nu,ns,af,pr,ma,fr,mx,u)=eN i++(eW nu++(eT (ya4 bo))):=rfl
theorem eP_18 (w:ByteArray)(b:ByteArray)(y:ByteArray)(i:Int)(bo:List Int)(tg:List yak)(l:yan)(q:Bool)(d:yad)(r:List yag)(g:List yac)(nu:Int)(ns:List Int)(af:ByteArray)(pr:ByteArray)(ma:ByteArray)(fr:yaq)(mx:Int)(u:Unit):eP (18,w,b,y,i,bo,tg,l,q,d,r,g,nu,ns,af,pr,ma,fr,mx,u)=eN i++(eW ((ns.length:Nat):Int)++(ns.flatMap eI)):=rfl
theorem eP_19 (w:ByteArray)(b:ByteArray)(y:ByteArray)(i:Int)(bo:List Int)(tg:List yak)(l:yan)(q:Bool)(d:yad)(r:List yag)(g:List yac)(nu:Int)(ns:List Int)(af:ByteArray)(pr:ByteArray)(ma:ByteArray)(fr:yaq)(mx:Int)(u:Unit):eP (19,w,b,y,i,bo,tg,l,q,d,r,g,nu,ns,af,pr,ma,fr,mx,u)=eN i:=rfl
theorem eP_20 (w:ByteArray)(b:ByteArray)(y:ByteArray)(i:Int)(bo:List Int)(tg:List yak)(l:yan)(q:Bool)(d:yad)(r:List yag)(g:List yac)(nu:Int)(ns:List Int)(af:ByteArray)(pr:ByteArray)(ma:ByteArray)(fr:yaq)(mx:Int)(u:Unit):eP (20,w,b,y,i,bo,tg,l,q,d,r,g,nu,ns,af,pr,ma,fr,mx,u)=eT y++(eT fr.1++(eT fr.2.1++(eN fr.2.2.1))):=rfl
theorem eP_21 (w:ByteArray)(b:ByteArray)(y:ByteArray)(i:Int)(bo:List Int)(tg:List yak)(l:yan)(q:Bool)(d:yad)(r:List yag)(g:List yac)(nu:Int)(ns:List Int)(af:ByteArray)(pr:ByteArray)(ma:ByteArray)(fr:yaq)(mx:Int)(u:Unit):eP (21,w,b,y,i,bo,tg,l,q,d,r,g,nu,ns,af,pr,ma,fr,mx,u)=[]:=rfl
theorem eP_22 (w:ByteArray)(b:ByteArray)(y:ByteArray)(i:Int)(bo:List Int)(tg:List yak)(l:yan)(q:Bool)(d:yad)(r:List yag)(g:List yac)(nu:Int)(ns:List Int)(af:ByteArray)(pr:ByteArray)(ma:ByteArray)(fr:yaq)(mx:Int)(u:Unit):eP (22,w,b,y,i,bo,tg,l,q,d,r,g,nu,ns,af,pr,ma,fr,mx,u)=[]:=rfl
theorem wKey {n:Nat}(hn:300≤n)(w:List Int)(u:Unit){e:Q}(hi:U64 e.2.2.2.2.1)(h:w.length+((eT e.2.2.2.1).length+(eN e.2.2.2.2.1).length)≤70368744177664):yce.f n (w,u) e=some ((w++(eT e.2.2.2.1++eN e.2.2.2.2.1),()),()):=by
  rw[yce.e0]
  try dsimp only
  rw[wText hn _ () (by omega),yaf]
  try dsimp only
  rw[wNum hn _ () hi (by rw[List.length_append];omega),yaf]
  simp only[List.append_assoc]
theorem wf_1 {n:Nat}(hn:300≤n)(hn2:n≤536870912)(w0:List Int)(z:Unit)(w:ByteArray)(b:ByteArray)(y:ByteArray)(i:Int)(bo:List Int)(tg:List yak)(l:yan)(q:Bool)(d:yad)(r:List yag)(g:List yac)(nu:Int)(ns:List Int)(af:ByteArray)(pr:ByteArray)(ma:ByteArray)(fr:yaq)(mx:Int)(u:Unit)(he:QB n (1,w,b,y,i,bo,tg,l,q,d,r,g,nu,ns,af,pr,ma,fr,mx,u))(hr:QR (1,w,b,y,i,bo,tg,l,q,d,r,g,nu,ns,af,pr,ma,fr,mx,u))(h:w0.length+(eP (1,w,b,y,i,bo,tg,l,q,d,r,g,nu,ns,af,pr,ma,fr,mx,u)).length≤70368744177664) :
    yai.f n (w0,z) (1,w,b,y,i,bo,tg,l,q,d,r,g,nu,ns,af,pr,ma,fr,mx,u)=some ((w0++eP (1,w,b,y,i,bo,tg,l,q,d,r,g,nu,ns,af,pr,ma,fr,mx,u),()),()):=by
  rw[eP_1]at h ⊢
  try simp only[List.length_append]at h
  rw[yai.e0]
  simp only[yai.e1,yai.e2,yaZ,Int.reduceBEq,bIf_t,bIf_f]
  try dsimp only
  rw[wDef hn _ () (by first | omega | (simp only[List.length_append];omega)),yaf]
  try dsimp only
  try simp only[List.append_assoc]
theorem wf_2 {n:Nat}(hn:300≤n)(hn2:n≤536870912)(w0:List Int)(z:Unit)(w:ByteArray)(b:ByteArray)(y:ByteArray)(i:Int)(bo:List Int)(tg:List yak)(l:yan)(q:Bool)(d:yad)(r:List yag)(g:List yac)(nu:Int)(ns:List Int)(af:ByteArray)(pr:ByteArray)(ma:ByteArray)(fr:yaq)(mx:Int)(u:Unit)(he:QB n (2,w,b,y,i,bo,tg,l,q,d,r,g,nu,ns,af,pr,ma,fr,mx,u))(hr:QR (2,w,b,y,i,bo,tg,l,q,d,r,g,nu,ns,af,pr,ma,fr,mx,u))(h:w0.length+(eP (2,w,b,y,i,bo,tg,l,q,d,r,g,nu,ns,af,pr,ma,fr,mx,u)).length≤70368744177664) :
    yai.f n (w0,z) (2,w,b,y,i,bo,tg,l,q,d,r,g,nu,ns,af,pr,ma,fr,mx,u)=some ((w0++eP (2,w,b,y,i,bo,tg,l,q,d,r,g,nu,ns,af,pr,ma,fr,mx,u),()),()):=by
  rw[eP_2]at h ⊢
  try simp only[List.length_append]at h
  rw[yai.e0]
  simp only[yai.e1,yai.e2,yaZ,Int.reduceBEq,bIf_t,bIf_f]
  try dsimp only
  try rw[List.append_nil]
theorem wf_3 {n:Nat}(hn:300≤n)(hn2:n≤536870912)(w0:List Int)(z:Unit)(w:ByteArray)(b:ByteArray)(y:ByteArray)(i:Int)(bo:List Int)(tg:List yak)(l:yan)(q:Bool)(d:yad)(r:List yag)(g:List yac)(nu:Int)(ns:List Int)(af:ByteArray)(pr:ByteArray)(ma:ByteArray)(fr:yaq)(mx:Int)(u:Unit)(he:QB n (3,w,b,y,i,bo,tg,l,q,d,r,g,nu,ns,af,pr,ma,fr,mx,u))(hr:QR (3,w,b,y,i,bo,tg,l,q,d,r,g,nu,ns,af,pr,ma,fr,mx,u))(h:w0.length+(eP (3,w,b,y,i,bo,tg,l,q,d,r,g,nu,ns,af,pr,ma,fr,mx,u)).length≤70368744177664) :
    yai.f n (w0,z) (3,w,b,y,i,bo,tg,l,q,d,r,g,nu,ns,af,pr,ma,fr,mx,u)=some ((w0++eP (3,w,b,y,i,bo,tg,l,q,d,r,g,nu,ns,af,pr,ma,fr,mx,u),()),()):=by
  rw[eP_3]at h ⊢
  try simp only[List.length_append]at h
  rw[yai.e0]
  simp only[yai.e1,yai.e2,yaZ,Int.reduceBEq,bIf_t,bIf_f]
  try dsimp only
  rw[wDef hn _ () (by first | omega | (simp only[List.length_append];omega)),yaf]
  try dsimp only
  try simp only[List.append_assoc]
theorem wf_4 {n:Nat}(hn:300≤n)(hn2:n≤536870912)(w0:List Int)(z:Unit)(w:ByteArray)(b:ByteArray)(y:ByteArray)(i:Int)(bo:List Int)(tg:List yak)(l:yan)(q:Bool)(d:yad)(r:List yag)(g:List yac)(nu:Int)(ns:List Int)(af:ByteArray)(pr:ByteArray)(ma:ByteArray)(fr:yaq)(mx:Int)(u:Unit)(he:QB n (4,w,b,y,i,bo,tg,l,q,d,r,g,nu,ns,af,pr,ma,fr,mx,u))(hr:QR (4,w,b,y,i,bo,tg,l,q,d,r,g,nu,ns,af,pr,ma,fr,mx,u))(h:w0.length+(eP (4,w,b,y,i,bo,tg,l,q,d,r,g,nu,ns,af,pr,ma,fr,mx,u)).length≤70368744177664) :
    yai.f n (w0,z) (4,w,b,y,i,bo,tg,l,q,d,r,g,nu,ns,af,pr,ma,fr,mx,u)=some ((w0++eP (4,w,b,y,i,bo,tg,l,q,d,r,g,nu,ns,af,pr,ma,fr,mx,u),()),()):=by
  rw[eP_4]at h ⊢
  try simp only[List.length_append]at h
  rw[yai.e0]
  simp only[yai.e1,yai.e2,yaZ,Int.reduceBEq,bIf_t,bIf_f]
  try dsimp only
  rw[wRules hn _ () he.r hn2 (by first | omega | (simp only[List.length_append];omega)),yaf]
  try dsimp only
  try simp only[List.append_assoc]
theorem wf_5 {n:Nat}(hn:300≤n)(hn2:n≤536870912)(w0:List Int)(z:Unit)(w:ByteArray)(b:ByteArray)(y:ByteArray)(i:Int)(bo:List Int)(tg:List yak)(l:yan)(q:Bool)(d:yad)(r:List yag)(g:List yac)(nu:Int)(ns:List Int)(af:ByteArray)(pr:ByteArray)(ma:ByteArray)(fr:yaq)(mx:Int)(u:Unit)(he:QB n (5,w,b,y,i,bo,tg,l,q,d,r,g,nu,ns,af,pr,ma,fr,mx,u))(hr:QR (5,w,b,y,i,bo,tg,l,q,d,r,g,nu,ns,af,pr,ma,fr,mx,u))(h:w0.length+(eP (5,w,b,y,i,bo,tg,l,q,d,r,g,nu,ns,af,pr,ma,fr,mx,u)).length≤70368744177664) :
    yai.f n (w0,z) (5,w,b,y,i,bo,tg,l,q,d,r,g,nu,ns,af,pr,ma,fr,mx,u)=some ((w0++eP (5,w,b,y,i,bo,tg,l,q,d,r,g,nu,ns,af,pr,ma,fr,mx,u),()),()):=by
  rw[eP_5]at h ⊢
  try simp only[List.length_append]at h
  rw[yai.e0]
  simp only[yai.e1,yai.e2,yaZ,Int.reduceBEq,bIf_t,bIf_f]
  try dsimp only
  rw[wGrants hn _ () he.g hn2 (by first | omega | (simp only[List.length_append];omega)),yaf]
  try dsimp only
  try simp only[List.append_assoc]
theorem wf_6 {n:Nat}(hn:300≤n)(hn2:n≤536870912)(w0:List Int)(z:Unit)(w:ByteArray)(b:ByteArray)(y:ByteArray)(i:Int)(bo:List Int)(tg:List yak)(l:yan)(q:Bool)(d:yad)(r:List yag)(g:List yac)(nu:Int)(ns:List Int)(af:ByteArray)(pr:ByteArray)(ma:ByteArray)(fr:yaq)(mx:Int)(u:Unit)(he:QB n (6,w,b,y,i,bo,tg,l,q,d,r,g,nu,ns,af,pr,ma,fr,mx,u))(hr:QR (6,w,b,y,i,bo,tg,l,q,d,r,g,nu,ns,af,pr,ma,fr,mx,u))(h:w0.length+(eP (6,w,b,y,i,bo,tg,l,q,d,r,g,nu,ns,af,pr,ma,fr,mx,u)).length≤70368744177664) :
    yai.f n (w0,z) (6,w,b,y,i,bo,tg,l,q,d,r,g,nu,ns,af,pr,ma,fr,mx,u)=some ((w0++eP (6,w,b,y,i,bo,tg,l,q,d,r,g,nu,ns,af,pr,ma,fr,mx,u),()),()):=by
  rw[eP_6]at h ⊢
  try simp only[List.length_append]at h
  rw[yai.e0]
  simp only[yai.e1,yai.e2,yaZ,Int.reduceBEq,bIf_t,bIf_f]
  try dsimp only
  rw[wText hn _ () (by first | omega | (simp only[List.length_append];omega)),yaf]
  try dsimp only
  rw[wText hn _ () (by first | omega | (simp only[List.length_append];omega)),yaf]
  try dsimp only
  rw[wTags hn _ () he.tg.1 hn2 (by first | omega | (simp only[List.length_append];omega)),yaf]
  try dsimp only
  rw[wLock hn _ () hr.l (by first | omega | (simp only[List.length_append];omega)),yaf]
  try dsimp only
  try simp only[List.append_assoc]
theorem wf_7 {n:Nat}(hn:300≤n)(hn2:n≤536870912)(w0:List Int)(z:Unit)(w:ByteArray)(b:ByteArray)(y:ByteArray)(i:Int)(bo:List Int)(tg:List yak)(l:yan)(q:Bool)(d:yad)(r:List yag)(g:List yac)(nu:Int)(ns:List Int)(af:ByteArray)(pr:ByteArray)(ma:ByteArray)(fr:yaq)(mx:Int)(u:Unit)(he:QB n (7,w,b,y,i,bo,tg,l,q,d,r,g,nu,ns,af,pr,ma,fr,mx,u))(hr:QR (7,w,b,y,i,bo,tg,l,q,d,r,g,nu,ns,af,pr,ma,fr,mx,u))(h:w0.length+(eP (7,w,b,y,i,bo,tg,l,q,d,r,g,nu,ns,af,pr,ma,fr,mx,u)).length≤70368744177664) :
    yai.f n (w0,z) (7,w,b,y,i,bo,tg,l,q,d,r,g,nu,ns,af,pr,ma,fr,mx,u)=some ((w0++eP (7,w,b,y,i,bo,tg,l,q,d,r,g,nu,ns,af,pr,ma,fr,mx,u),()),()):=by
  rw[eP_7]at h ⊢
  try simp only[List.length_append]at h
  rw[yai.e0]
  simp only[yai.e1,yai.e2,yaZ,Int.reduceBEq,bIf_t,bIf_f]
  try dsimp only
  rw[wKey hn _ () (e:=(7,w,b,y,i,bo,tg,l,q,d,r,g,nu,ns,af,pr,ma,fr,mx,u)) hr.i (by first | omega | (simp only[List.length_append];omega)),yaf]
  try dsimp only
  try simp only[List.append_assoc]
theorem wf_8 {n:Nat}(hn:300≤n)(hn2:n≤536870912)(w0:List Int)(z:Unit)(w:ByteArray)(b:ByteArray)(y:ByteArray)(i:Int)(bo:List Int)(tg:List yak)(l:yan)(q:Bool)(d:yad)(r:List yag)(g:List yac)(nu:Int)(ns:List Int)(af:ByteArray)(pr:ByteArray)(ma:ByteArray)(fr:yaq)(mx:Int)(u:Unit)(he:QB n (8,w,b,y,i,bo,tg,l,q,d,r,g,nu,ns,af,pr,ma,fr,mx,u))(hr:QR (8,w,b,y,i,bo,tg,l,q,d,r,g,nu,ns,af,pr,ma,fr,mx,u))(h:w0.length+(eP (8,w,b,y,i,bo,tg,l,q,d,r,g,nu,ns,af,pr,ma,fr,mx,u)).length≤70368744177664) :
    yai.f n (w0,z) (8,w,b,y,i,bo,tg,l,q,d,r,g,nu,ns,af,pr,ma,fr,mx,u)=some ((w0++eP (8,w,b,y,i,bo,tg,l,q,d,r,g,nu,ns,af,pr,ma,fr,mx,u),()),()):=by
  rw[eP_8]at h ⊢
  try simp only[List.length_append]at h
  rw[yai.e0]
  simp only[yai.e1,yai.e2,yaZ,Int.reduceBEq,bIf_t,bIf_f]
  try dsimp only
  rw[wKey hn _ () (e:=(8,w,b,y,i,bo,tg,l,q,d,r,g,nu,ns,af,pr,ma,fr,mx,u)) hr.i (by first | omega | (simp only[List.length_append];omega)),yaf]
  try dsimp only
  try simp only[List.append_assoc]
theorem wf_9 {n:Nat}(hn:300≤n)(hn2:n≤536870912)(w0:List Int)(z:Unit)(w:ByteArray)(b:ByteArray)(y:ByteArray)(i:Int)(bo:List Int)(tg:List yak)(l:yan)(q:Bool)(d:yad)(r:List yag)(g:List yac)(nu:Int)(ns:List Int)(af:ByteArray)(pr:ByteArray)(ma:ByteArray)(fr:yaq)(mx:Int)(u:Unit)(he:QB n (9,w,b,y,i,bo,tg,l,q,d,r,g,nu,ns,af,pr,ma,fr,mx,u))(hr:QR (9,w,b,y,i,bo,tg,l,q,d,r,g,nu,ns,af,pr,ma,fr,mx,u))(h:w0.length+(eP (9,w,b,y,i,bo,tg,l,q,d,r,g,nu,ns,af,pr,ma,fr,mx,u)).length≤70368744177664) :
    yai.f n (w0,z) (9,w,b,y,i,bo,tg,l,q,d,r,g,nu,ns,af,pr,ma,fr,mx,u)=some ((w0++eP (9,w,b,y,i,bo,tg,l,q,d,r,g,nu,ns,af,pr,ma,fr,mx,u),()),()):=by
  rw[eP_9]at h ⊢
  try simp only[List.length_append]at h
  rw[yai.e0]
  simp only[yai.e1,yai.e2,yaZ,Int.reduceBEq,bIf_t,bIf_f]
  try dsimp only
  rw[wText hn _ () (by first | omega | (simp only[List.length_append];omega)),yaf]
  try dsimp only
  try simp only[List.append_assoc]
theorem wf_10 {n:Nat}(hn:300≤n)(hn2:n≤536870912)(w0:List Int)(z:Unit)(w:ByteArray)(b:ByteArray)(y:ByteArray)(i:Int)(bo:List Int)(tg:List yak)(l:yan)(q:Bool)(d:yad)(r:List yag)(g:List yac)(nu:Int)(ns:List Int)(af:ByteArray)(pr:ByteArray)(ma:ByteArray)(fr:yaq)(mx:Int)(u:Unit)(he:QB n (10,w,b,y,i,bo,tg,l,q,d,r,g,nu,ns,af,pr,ma,fr,mx,u))(hr:QR (10,w,b,y,i,bo,tg,l,q,d,r,g,nu,ns,af,pr,ma,fr,mx,u))(h:w0.length+(eP (10,w,b,y,i,bo,tg,l,q,d,r,g,nu,ns,af,pr,ma,fr,mx,u)).length≤70368744177664) :
    yai.f n (w0,z) (10,w,b,y,i,bo,tg,l,q,d,r,g,nu,ns,af,pr,ma,fr,mx,u)=some ((w0++eP (10,w,b,y,i,bo,tg,l,q,d,r,g,nu,ns,af,pr,ma,fr,mx,u),()),()):=by
  rw[eP_10]at h ⊢
  try simp only[List.length_append]at h
  rw[yai.e0]
  simp only[yai.e1,yai.e2,yaZ,Int.reduceBEq,bIf_t,bIf_f]
  try dsimp only
  rw[wKey hn _ () (e:=(10,w,b,y,i,bo,tg,l,q,d,r,g,nu,ns,af,pr,ma,fr,mx,u)) hr.i (by first | omega | (simp only[List.length_append];omega)),yaf]
  try dsimp only
  rw[wFlag _ () (by first | omega | (simp only[List.length_append];omega)),yaf]
  try dsimp only
  try simp only[List.append_assoc]
theorem wf_11 {n:Nat}(hn:300≤n)(hn2:n≤536870912)(w0:List Int)(z:Unit)(w:ByteArray)(b:ByteArray)(y:ByteArray)(i:Int)(bo:List Int)(tg:List yak)(l:yan)(q:Bool)(d:yad)(r:List yag)(g:List yac)(nu:Int)(ns:List Int)(af:ByteArray)(pr:ByteArray)(ma:ByteArray)(fr:yaq)(mx:Int)(u:Unit)(he:QB n (11,w,b,y,i,bo,tg,l,q,d,r,g,nu,ns,af,pr,ma,fr,mx,u))(hr:QR (11,w,b,y,i,bo,tg,l,q,d,r,g,nu,ns,af,pr,ma,fr,mx,u))(h:w0.length+(eP (11,w,b,y,i,bo,tg,l,q,d,r,g,nu,ns,af,pr,ma,fr,mx,u)).length≤70368744177664) :
    yai.f n (w0,z) (11,w,b,y,i,bo,tg,l,q,d,r,g,nu,ns,af,pr,ma,fr,mx,u)=some ((w0++eP (11,w,b,y,i,bo,tg,l,q,d,r,g,nu,ns,af,pr,ma,fr,mx,u),()),()):=by
  rw[eP_11]at h ⊢
  try simp only[List.length_append]at h
  rw[yai.e0]
  simp only[yai.e1,yai.e2,yaZ,Int.reduceBEq,bIf_t,bIf_f]
  try dsimp only
  rw[wKey hn _ () (e:=(11,w,b,y,i,bo,tg,l,q,d,r,g,nu,ns,af,pr,ma,fr,mx,u)) hr.i (by first | omega | (simp only[List.length_append];omega)),yaf]
  try dsimp only
  rw[wLock hn _ () hr.l (by first | omega | (simp only[List.length_append];omega)),yaf]
  try dsimp only
  rw[wFlag _ () (by first | omega | (simp only[List.length_append];omega)),yaf]
  try dsimp only
  try simp only[List.append_assoc]
theorem wf_12 {n:Nat}(hn:300≤n)(hn2:n≤536870912)(w0:List Int)(z:Unit)(w:ByteArray)(b:ByteArray)(y:ByteArray)(i:Int)(bo:List Int)(tg:List yak)(l:yan)(q:Bool)(d:yad)(r:List yag)(g:List yac)(nu:Int)(ns:List Int)(af:ByteArray)(pr:ByteArray)(ma:ByteArray)(fr:yaq)(mx:Int)(u:Unit)(he:QB n (12,w,b,y,i,bo,tg,l,q,d,r,g,nu,ns,af,pr,ma,fr,mx,u))(hr:QR (12,w,b,y,i,bo,tg,l,q,d,r,g,nu,ns,af,pr,ma,fr,mx,u))(h:w0.length+(eP (12,w,b,y,i,bo,tg,l,q,d,r,g,nu,ns,af,pr,ma,fr,mx,u)).length≤70368744177664) :
    yai.f n (w0,z) (12,w,b,y,i,bo,tg,l,q,d,r,g,nu,ns,af,pr,ma,fr,mx,u)=some ((w0++eP (12,w,b,y,i,bo,tg,l,q,d,r,g,nu,ns,af,pr,ma,fr,mx,u),()),()):=by
  rw[eP_12]at h ⊢
  try simp only[List.length_append]at h
  rw[yai.e0]
  simp only[yai.e1,yai.e2,yaZ,Int.reduceBEq,bIf_t,bIf_f]
  try dsimp only
  rw[wKey hn _ () (e:=(12,w,b,y,i,bo,tg,l,q,d,r,g,nu,ns,af,pr,ma,fr,mx,u)) hr.i (by first | omega | (simp only[List.length_append];omega)),yaf]
  try dsimp only
  rw[wLock hn _ () hr.l (by first | omega | (simp only[List.length_append];omega)),yaf]
  try dsimp only
  try simp only[List.append_assoc]
theorem wf_13 {n:Nat}(hn:300≤n)(hn2:n≤536870912)(w0:List Int)(z:Unit)(w:ByteArray)(b:ByteArray)(y:ByteArray)(i:Int)(bo:List Int)(tg:List yak)(l:yan)(q:Bool)(d:yad)(r:List yag)(g:List yac)(nu:Int)(ns:List Int)(af:ByteArray)(pr:ByteArray)(ma:ByteArray)(fr:yaq)(mx:Int)(u:Unit)(he:QB n (13,w,b,y,i,bo,tg,l,q,d,r,g,nu,ns,af,pr,ma,fr,mx,u))(hr:QR (13,w,b,y,i,bo,tg,l,q,d,r,g,nu,ns,af,pr,ma,fr,mx,u))(h:w0.length+(eP (13,w,b,y,i,bo,tg,l,q,d,r,g,nu,ns,af,pr,ma,fr,mx,u)).length≤70368744177664) :
    yai.f n (w0,z) (13,w,b,y,i,bo,tg,l,q,d,r,g,nu,ns,af,pr,ma,fr,mx,u)=some ((w0++eP (13,w,b,y,i,bo,tg,l,q,d,r,g,nu,ns,af,pr,ma,fr,mx,u),()),()):=by
  rw[eP_13]at h ⊢
  try simp only[List.length_append]at h
  rw[yai.e0]
  simp only[yai.e1,yai.e2,yaZ,Int.reduceBEq,bIf_t,bIf_f]
  try dsimp only
  rw[wKey hn _ () (e:=(13,w,b,y,i,bo,tg,l,q,d,r,g,nu,ns,af,pr,ma,fr,mx,u)) hr.i (by first | omega | (simp only[List.length_append];omega)),yaf]
  try dsimp only
  rw[wTags hn _ () he.tg.1 hn2 (by first | omega | (simp only[List.length_append];omega)),yaf]
  try dsimp only
  try simp only[List.append_assoc]
theorem wf_14 {n:Nat}(hn:300≤n)(hn2:n≤536870912)(w0:List Int)(z:Unit)(w:ByteArray)(b:ByteArray)(y:ByteArray)(i:Int)(bo:List Int)(tg:List yak)(l:yan)(q:Bool)(d:yad)(r:List yag)(g:List yac)(nu:Int)(ns:List Int)(af:ByteArray)(pr:ByteArray)(ma:ByteArray)(fr:yaq)(mx:Int)(u:Unit)(he:QB n (14,w,b,y,i,bo,tg,l,q,d,r,g,nu,ns,af,pr,ma,fr,mx,u))(hr:QR (14,w,b,y,i,bo,tg,l,q,d,r,g,nu,ns,af,pr,ma,fr,mx,u))(h:w0.length+(eP (14,w,b,y,i,bo,tg,l,q,d,r,g,nu,ns,af,pr,ma,fr,mx,u)).length≤70368744177664) :
    yai.f n (w0,z) (14,w,b,y,i,bo,tg,l,q,d,r,g,nu,ns,af,pr,ma,fr,mx,u)=some ((w0++eP (14,w,b,y,i,bo,tg,l,q,d,r,g,nu,ns,af,pr,ma,fr,mx,u),()),()):=by
  rw[eP_14]at h ⊢
  try simp only[List.length_append]at h
  rw[yai.e0]
  simp only[yai.e1,yai.e2,yaZ,Int.reduceBEq,bIf_t,bIf_f]
  try dsimp only
  rw[wText hn _ () (by first | omega | (simp only[List.length_append];omega)),yaf]
  try dsimp only
  rw[wText hn _ () (by first | omega | (simp only[List.length_append];omega)),yaf]
  try dsimp only
  rw[wText hn _ () (by first | omega | (simp only[List.length_append];omega)),yaf]
  try dsimp only
  rw[wW hn _ () (by first | omega | (simp only[List.length_append];omega)),yaf]
  try dsimp only
  try simp only[List.append_assoc]
theorem wf_15 {n:Nat}(hn:300≤n)(hn2:n≤536870912)(w0:List Int)(z:Unit)(w:ByteArray)(b:ByteArray)(y:ByteArray)(i:Int)(bo:List Int)(tg:List yak)(l:yan)(q:Bool)(d:yad)(r:List yag)(g:List yac)(nu:Int)(ns:List Int)(af:ByteArray)(pr:ByteArray)(ma:ByteArray)(fr:yaq)(mx:Int)(u:Unit)(he:QB n (15,w,b,y,i,bo,tg,l,q,d,r,g,nu,ns,af,pr,ma,fr,mx,u))(hr:QR (15,w,b,y,i,bo,tg,l,q,d,r,g,nu,ns,af,pr,ma,fr,mx,u))(h:w0.length+(eP (15,w,b,y,i,bo,tg,l,q,d,r,g,nu,ns,af,pr,ma,fr,mx,u)).length≤70368744177664) :
    yai.f n (w0,z) (15,w,b,y,i,bo,tg,l,q,d,r,g,nu,ns,af,pr,ma,fr,mx,u)=some ((w0++eP (15,w,b,y,i,bo,tg,l,q,d,r,g,nu,ns,af,pr,ma,fr,mx,u),()),()):=by
  rw[eP_15]at h ⊢
  try simp only[List.length_append]at h
  rw[yai.e0]
  simp only[yai.e1,yai.e2,yaZ,Int.reduceBEq,bIf_t,bIf_f]
  try dsimp only
  rw[wText hn _ () (by first | omega | (simp only[List.length_append];omega)),yaf]
  try dsimp only
  rw[wText hn _ () (by first | omega | (simp only[List.length_append];omega)),yaf]
  try dsimp only
  rw[wNum hn _ () hr.fi (by first | omega | (simp only[List.length_append];omega)),yaf]
  try dsimp only
  rw[wW hn _ () (by first | omega | (simp only[List.length_append];omega)),yaf]
  try dsimp only
  try simp only[List.append_assoc]
theorem wf_16 {n:Nat}(hn:300≤n)(hn2:n≤536870912)(w0:List Int)(z:Unit)(w:ByteArray)(b:ByteArray)(y:ByteArray)(i:Int)(bo:List Int)(tg:List yak)(l:yan)(q:Bool)(d:yad)(r:List yag)(g:List yac)(nu:Int)(ns:List Int)(af:ByteArray)(pr:ByteArray)(ma:ByteArray)(fr:yaq)(mx:Int)(u:Unit)(he:QB n (16,w,b,y,i,bo,tg,l,q,d,r,g,nu,ns,af,pr,ma,fr,mx,u))(hr:QR (16,w,b,y,i,bo,tg,l,q,d,r,g,nu,ns,af,pr,ma,fr,mx,u))(h:w0.length+(eP (16,w,b,y,i,bo,tg,l,q,d,r,g,nu,ns,af,pr,ma,fr,mx,u)).length≤70368744177664) :
    yai.f n (w0,z) (16,w,b,y,i,bo,tg,l,q,d,r,g,nu,ns,af,pr,ma,fr,mx,u)=some ((w0++eP (16,w,b,y,i,bo,tg,l,q,d,r,g,nu,ns,af,pr,ma,fr,mx,u),()),()):=by
  rw[eP_16]at h ⊢
  try simp only[List.length_append]at h
  rw[yai.e0]
  simp only[yai.e1,yai.e2,yaZ,Int.reduceBEq,bIf_t,bIf_f]
  try dsimp only
  rw[wText hn _ () (by first | omega | (simp only[List.length_append];omega)),yaf]
  try dsimp only
  rw[wTags hn _ () he.tg.1 hn2 (by first | omega | (simp only[List.length_append];omega)),yaf]
  try dsimp only
  try simp only[List.append_assoc]
theorem wf_17 {n:Nat}(hn:300≤n)(hn2:n≤536870912)(w0:List Int)(z:Unit)(w:ByteArray)(b:ByteArray)(y:ByteArray)(i:Int)(bo:List Int)(tg:List yak)(l:yan)(q:Bool)(d:yad)(r:List yag)(g:List yac)(nu:Int)(ns:List Int)(af:ByteArray)(pr:ByteArray)(ma:ByteArray)(fr:yaq)(mx:Int)(u:Unit)(he:QB n (17,w,b,y,i,bo,tg,l,q,d,r,g,nu,ns,af,pr,ma,fr,mx,u))(hr:QR (17,w,b,y,i,bo,tg,l,q,d,r,g,nu,ns,af,pr,ma,fr,mx,u))(h:w0.length+(eP (17,w,b,y,i,bo,tg,l,q,d,r,g,nu,ns,af,pr,ma,fr,mx,u)).length≤70368744177664) :
    yai.f n (w0,z) (17,w,b,y,i,bo,tg,l,q,d,r,g,nu,ns,af,pr,ma,fr,mx,u)=some ((w0++eP (17,w,b,y,i,bo,tg,l,q,d,r,g,nu,ns,af,pr,ma,fr,mx,u),()),()):=by
  rw[eP_17]at h ⊢
  try simp only[List.length_append]at h
  rw[yai.e0]
  simp only[yai.e1,yai.e2,yaZ,Int.reduceBEq,bIf_t,bIf_f]
  try dsimp only
  rw[wNum hn _ () hr.i (by first | omega | (simp only[List.length_append];omega)),yaf]
  try dsimp only
  rw[wW hn _ () (by first | omega | (simp only[List.length_append];omega)),yaf]
  try dsimp only
  rw[wText hn _ () (by first | omega | (simp only[List.length_append];omega)),yaf]
  try dsimp only
  try simp only[List.append_assoc]
theorem wf_18 {n:Nat}(hn:300≤n)(hn2:n≤536870912)(w0:List Int)(z:Unit)(w:ByteArray)(b:ByteArray)(y:ByteArray)(i:Int)(bo:List Int)(tg:List yak)(l:yan)(q:Bool)(d:yad)(r:List yag)(g:List yac)(nu:Int)(ns:List Int)(af:ByteArray)(pr:ByteArray)(ma:ByteArray)(fr:yaq)(mx:Int)(u:Unit)(he:QB n (18,w,b,y,i,bo,tg,l,q,d,r,g,nu,ns,af,pr,ma,fr,mx,u))(hr:QR (18,w,b,y,i,bo,tg,l,q,d,r,g,nu,ns,af,pr,ma,fr,mx,u))(h:w0.length+(eP (18,w,b,y,i,bo,tg,l,q,d,r,g,nu,ns,af,pr,ma,fr,mx,u)).length≤70368744177664) :
    yai.f n (w0,z) (18,w,b,y,i,bo,tg,l,q,d,r,g,nu,ns,af,pr,ma,fr,mx,u)=some ((w0++eP (18,w,b,y,i,bo,tg,l,q,d,r,g,nu,ns,af,pr,ma,fr,mx,u),()),()):=by
  rw[eP_18]at h ⊢
  try simp only[List.length_append]at h
  rw[yai.e0]
  simp only[yai.e1,yai.e2,yaZ,Int.reduceBEq,bIf_t,bIf_f]
  try dsimp only
  rw[wNum hn _ () hr.i (by first | omega | (simp only[List.length_append];omega)),yaf]
  try dsimp only
  rw[wW hn _ () (by first | omega | (simp only[List.length_append];omega)),yaf]
  try dsimp only
  have hlen:ns.length<n:=he.ns
  have:=app_loop (l:=ns) (0:Int) eI 70368744177664 (λm k L=>yai.J3 n m (ns,((ns.length:Nat):Int),k,(((),()),()),(L,()),())) (λL=>some ((L,()),()))
    (λm k L hk hL=>by
      have hx:I64 (ns.getD k 0):=hr.ns _ (ydR (d:=0) hk)
      try dsimp only
      rw[yai.e3,yaB,decide_eq_true (by omega),yaR,yaP ⟨by omega,by omega⟩,Int.toNat_natCast,ybU k (by omega)]
      try dsimp only
      rw[wInt hn _ () hx (by omega),yaf])
    (λm L hL=>by
      try dsimp only
      rw[yai.e3,yaB,decide_eq_false (by omega),yaA]) n 0 _ (by omega) (by omega) (show ((w0++eN i)++eW ((ns.length:Nat):Int)).length+((ns.drop 0).flatMap eI).length≤70368744177664 by rw[List.drop_zero];simp only[List.length_append];omega)
  try dsimp only at this
  rw[show ((0:Nat):Int)=0 from rfl,List.drop_zero]at this
  rw[this]
  try simp only[List.append_assoc]
theorem wf_19 {n:Nat}(hn:300≤n)(hn2:n≤536870912)(w0:List Int)(z:Unit)(w:ByteArray)(b:ByteArray)(y:ByteArray)(i:Int)(bo:List Int)(tg:List yak)(l:yan)(q:Bool)(d:yad)(r:List yag)(g:List yac)(nu:Int)(ns:List Int)(af:ByteArray)(pr:ByteArray)(ma:ByteArray)(fr:yaq)(mx:Int)(u:Unit)(he:QB n (19,w,b,y,i,bo,tg,l,q,d,r,g,nu,ns,af,pr,ma,fr,mx,u))(hr:QR (19,w,b,y,i,bo,tg,l,q,d,r,g,nu,ns,af,pr,ma,fr,mx,u))(h:w0.length+(eP (19,w,b,y,i,bo,tg,l,q,d,r,g,nu,ns,af,pr,ma,fr,mx,u)).length≤70368744177664) :
    yai.f n (w0,z) (19,w,b,y,i,bo,tg,l,q,d,r,g,nu,ns,af,pr,ma,fr,mx,u)=some ((w0++eP (19,w,b,y,i,bo,tg,l,q,d,r,g,nu,ns,af,pr,ma,fr,mx,u),()),()):=by
  rw[eP_19]at h ⊢
  try simp only[List.length_append]at h
  rw[yai.e0]
  simp only[yai.e1,yai.e2,yaZ,Int.reduceBEq,bIf_t,bIf_f]
  try dsimp only
  rw[wNum hn _ () hr.i (by first | omega | (simp only[List.length_append];omega)),yaf]
  try dsimp only
  try simp only[List.append_assoc]
theorem wf_20 {n:Nat}(hn:300≤n)(hn2:n≤536870912)(w0:List Int)(z:Unit)(w:ByteArray)(b:ByteArray)(y:ByteArray)(i:Int)(bo:List Int)(tg:List yak)(l:yan)(q:Bool)(d:yad)(r:List yag)(g:List yac)(nu:Int)(ns:List Int)(af:ByteArray)(pr:ByteArray)(ma:ByteArray)(fr:yaq)(mx:Int)(u:Unit)(he:QB n (20,w,b,y,i,bo,tg,l,q,d,r,g,nu,ns,af,pr,ma,fr,mx,u))(hr:QR (20,w,b,y,i,bo,tg,l,q,d,r,g,nu,ns,af,pr,ma,fr,mx,u))(h:w0.length+(eP (20,w,b,y,i,bo,tg,l,q,d,r,g,nu,ns,af,pr,ma,fr,mx,u)).length≤70368744177664) :
    yai.f n (w0,z) (20,w,b,y,i,bo,tg,l,q,d,r,g,nu,ns,af,pr,ma,fr,mx,u)=some ((w0++eP (20,w,b,y,i,bo,tg,l,q,d,r,g,nu,ns,af,pr,ma,fr,mx,u),()),()):=by
  rw[eP_20]at h ⊢
  try simp only[List.length_append]at h
  rw[yai.e0]
  simp only[yai.e1,yai.e2,yaZ,Int.reduceBEq,bIf_t,bIf_f]
  try dsimp only
  rw[wText hn _ () (by first | omega | (simp only[List.length_append];omega)),yaf]
  try dsimp only
  rw[wText hn _ () (by first | omega | (simp only[List.length_append];omega)),yaf]
  try dsimp only
  rw[wText hn _ () (by first | omega | (simp only[List.length_append];omega)),yaf]
  try dsimp only
  rw[wNum hn _ () hr.fi (by first | omega | (simp only[List.length_append];omega)),yaf]
  try dsimp only
  try simp only[List.append_assoc]
theorem wf_21 {n:Nat}(hn:300≤n)(hn2:n≤536870912)(w0:List Int)(z:Unit)(w:ByteArray)(b:ByteArray)(y:ByteArray)(i:Int)(bo:List Int)(tg:List yak)(l:yan)(q:Bool)(d:yad)(r:List yag)(g:List yac)(nu:Int)(ns:List Int)(af:ByteArray)(pr:ByteArray)(ma:ByteArray)(fr:yaq)(mx:Int)(u:Unit)(he:QB n (21,w,b,y,i,bo,tg,l,q,d,r,g,nu,ns,af,pr,ma,fr,mx,u))(hr:QR (21,w,b,y,i,bo,tg,l,q,d,r,g,nu,ns,af,pr,ma,fr,mx,u))(h:w0.length+(eP (21,w,b,y,i,bo,tg,l,q,d,r,g,nu,ns,af,pr,ma,fr,mx,u)).length≤70368744177664) :
    yai.f n (w0,z) (21,w,b,y,i,bo,tg,l,q,d,r,g,nu,ns,af,pr,ma,fr,mx,u)=some ((w0++eP (21,w,b,y,i,bo,tg,l,q,d,r,g,nu,ns,af,pr,ma,fr,mx,u),()),()):=by
  rw[eP_21]at h ⊢
  try simp only[List.length_append]at h
  rw[yai.e0]
  simp only[yai.e1,yai.e2,yaZ,Int.reduceBEq,bIf_t,bIf_f]
  try dsimp only
  try rw[List.append_nil]
theorem wf_22 {n:Nat}(hn:300≤n)(hn2:n≤536870912)(w0:List Int)(z:Unit)(w:ByteArray)(b:ByteArray)(y:ByteArray)(i:Int)(bo:List Int)(tg:List yak)(l:yan)(q:Bool)(d:yad)(r:List yag)(g:List yac)(nu:Int)(ns:List Int)(af:ByteArray)(pr:ByteArray)(ma:ByteArray)(fr:yaq)(mx:Int)(u:Unit)(he:QB n (22,w,b,y,i,bo,tg,l,q,d,r,g,nu,ns,af,pr,ma,fr,mx,u))(hr:QR (22,w,b,y,i,bo,tg,l,q,d,r,g,nu,ns,af,pr,ma,fr,mx,u))(h:w0.length+(eP (22,w,b,y,i,bo,tg,l,q,d,r,g,nu,ns,af,pr,ma,fr,mx,u)).length≤70368744177664) :
    yai.f n (w0,z) (22,w,b,y,i,bo,tg,l,q,d,r,g,nu,ns,af,pr,ma,fr,mx,u)=some ((w0++eP (22,w,b,y,i,bo,tg,l,q,d,r,g,nu,ns,af,pr,ma,fr,mx,u),()),()):=by
  rw[eP_22]at h ⊢
  try simp only[List.length_append]at h
  rw[yai.e0]
  simp only[yai.e1,yai.e2,yaZ,Int.reduceBEq,bIf_t,bIf_f]
  try dsimp only
  try rw[List.append_nil]
theorem qNum {n:Nat}(hn:300≤n)(x:Int):yc7.f n x=some (ya4 (eW x),()):=by
  rw[yc7.e0,ref10_Num hn (wrap_U64 _),yaf];rfl
theorem rf_1 {n:Nat}(hn:300≤n)(hn2:n≤536870912)(w:ByteArray)(b:ByteArray)(y:ByteArray)(i:Int)(bo:List Int)(tg:List yak)(l:yan)(q:Bool)(d:yad)(r:List yag)(g:List yac)(nu:Int)(ns:List Int)(af:ByteArray)(pr:ByteArray)(ma:ByteArray)(fr:yaq)(mx:Int)(u:Unit)(he:QB n (1,w,b,y,i,bo,tg,l,q,d,r,g,nu,ns,af,pr,ma,fr,mx,u))(hr:QR (1,w,b,y,i,bo,tg,l,q,d,r,g,nu,ns,af,pr,ma,fr,mx,u))(h:(eP (1,w,b,y,i,bo,tg,l,q,d,r,g,nu,ns,af,pr,ma,fr,mx,u)).length≤7036874417766) :
    yar.f n (1,w,b,y,i,bo,tg,l,q,d,r,g,nu,ns,af,pr,ma,fr,mx,u)=some (ya4 (eP (1,w,b,y,i,bo,tg,l,q,d,r,g,nu,ns,af,pr,ma,fr,mx,u)),()):=by
  have hy:y.size<n:=he.y
  have h1:=ycJ y
  have h2:=ydw i
  rw[eP_1]at h ⊢
  try simp only[List.length_append]at h
  rw[yar.e0]
  try dsimp only
  rw[pText hn (by omega),yaf]
  try dsimp only
  rw[pNum hn hr.i,yaf]
  try dsimp only
  rw[yal,yal,yaP (by omega),← yaE]
  simp only[yar.e1,yar.e2,yaZ,Int.reduceBEq,bIf_t,bIf_f]
  try dsimp only
  rw[pDef hn (by omega),yaf]
  try dsimp only
  try simp only[List.append_assoc]
theorem rf_2 {n:Nat}(hn:300≤n)(hn2:n≤536870912)(w:ByteArray)(b:ByteArray)(y:ByteArray)(i:Int)(bo:List Int)(tg:List yak)(l:yan)(q:Bool)(d:yad)(r:List yag)(g:List yac)(nu:Int)(ns:List Int)(af:ByteArray)(pr:ByteArray)(ma:ByteArray)(fr:yaq)(mx:Int)(u:Unit)(he:QB n (2,w,b,y,i,bo,tg,l,q,d,r,g,nu,ns,af,pr,ma,fr,mx,u))(hr:QR (2,w,b,y,i,bo,tg,l,q,d,r,g,nu,ns,af,pr,ma,fr,mx,u))(h:(eP (2,w,b,y,i,bo,tg,l,q,d,r,g,nu,ns,af,pr,ma,fr,mx,u)).length≤7036874417766) :
    yar.f n (2,w,b,y,i,bo,tg,l,q,d,r,g,nu,ns,af,pr,ma,fr,mx,u)=some (ya4 (eP (2,w,b,y,i,bo,tg,l,q,d,r,g,nu,ns,af,pr,ma,fr,mx,u)),()):=by
  have hy:y.size<n:=he.y
  have h1:=ycJ y
  have h2:=ydw i
  rw[eP_2]at h ⊢
  try simp only[List.length_append]at h
  rw[yar.e0]
  try dsimp only
  rw[pText hn (by omega),yaf]
  try dsimp only
  rw[pNum hn hr.i,yaf]
  try dsimp only
  rw[yal,yal,yaP (by omega),← yaE]
  simp only[yar.e1,yar.e2,yaZ,Int.reduceBEq,bIf_t,bIf_f]
  try dsimp only
  try (rw[yar.e5];rfl)
  try simp only[List.append_assoc]
theorem rf_3 {n:Nat}(hn:300≤n)(hn2:n≤536870912)(w:ByteArray)(b:ByteArray)(y:ByteArray)(i:Int)(bo:List Int)(tg:List yak)(l:yan)(q:Bool)(d:yad)(r:List yag)(g:List yac)(nu:Int)(ns:List Int)(af:ByteArray)(pr:ByteArray)(ma:ByteArray)(fr:yaq)(mx:Int)(u:Unit)(he:QB n (3,w,b,y,i,bo,tg,l,q,d,r,g,nu,ns,af,pr,ma,fr,mx,u))(hr:QR (3,w,b,y,i,bo,tg,l,q,d,r,g,nu,ns,af,pr,ma,fr,mx,u))(h:(eP (3,w,b,y,i,bo,tg,l,q,d,r,g,nu,ns,af,pr,ma,fr,mx,u)).length≤7036874417766) :
    yar.f n (3,w,b,y,i,bo,tg,l,q,d,r,g,nu,ns,af,pr,ma,fr,mx,u)=some (ya4 (eP (3,w,b,y,i,bo,tg,l,q,d,r,g,nu,ns,af,pr,ma,fr,mx,u)),()):=by
  have hy:y.size<n:=he.y
  have h1:=ycJ y
  have h2:=ydw i
  rw[eP_3]at h ⊢
  try simp only[List.length_append]at h
  rw[yar.e0]
  try dsimp only
  rw[pText hn (by omega),yaf]
  try dsimp only
  rw[pNum hn hr.i,yaf]
  try dsimp only
  rw[yal,yal,yaP (by omega),← yaE]
  simp only[yar.e1,yar.e2,yaZ,Int.reduceBEq,bIf_t,bIf_f]
  try dsimp only
  rw[pDef hn (by omega),yaf]
  try dsimp only
  try simp only[List.append_assoc]
theorem rf_4 {n:Nat}(hn:300≤n)(hn2:n≤536870912)(w:ByteArray)(b:ByteArray)(y:ByteArray)(i:Int)(bo:List Int)(tg:List yak)(l:yan)(q:Bool)(d:yad)(r:List yag)(g:List yac)(nu:Int)(ns:List Int)(af:ByteArray)(pr:ByteArray)(ma:ByteArray)(fr:yaq)(mx:Int)(u:Unit)(he:QB n (4,w,b,y,i,bo,tg,l,q,d,r,g,nu,ns,af,pr,ma,fr,mx,u))(hr:QR (4,w,b,y,i,bo,tg,l,q,d,r,g,nu,ns,af,pr,ma,fr,mx,u))(h:(eP (4,w,b,y,i,bo,tg,l,q,d,r,g,nu,ns,af,pr,ma,fr,mx,u)).length≤7036874417766) :
    yar.f n (4,w,b,y,i,bo,tg,l,q,d,r,g,nu,ns,af,pr,ma,fr,mx,u)=some (ya4 (eP (4,w,b,y,i,bo,tg,l,q,d,r,g,nu,ns,af,pr,ma,fr,mx,u)),()):=by
  have hy:y.size<n:=he.y
  have h1:=ycJ y
  have h2:=ydw i
  rw[eP_4]at h ⊢
  try simp only[List.length_append]at h
  rw[yar.e0]
  try dsimp only
  rw[pText hn (by omega),yaf]
  try dsimp only
  rw[pNum hn hr.i,yaf]
  try dsimp only
  rw[yal,yal,yaP (by omega),← yaE]
  simp only[yar.e1,yar.e2,yaZ,Int.reduceBEq,bIf_t,bIf_f]
  try dsimp only
  rw[pRules (l:=r) hn he.r hn2 (by omega),yaf]
  try dsimp only
  try simp only[List.append_assoc]
theorem rf_5 {n:Nat}(hn:300≤n)(hn2:n≤536870912)(w:ByteArray)(b:ByteArray)(y:ByteArray)(i:Int)(bo:List Int)(tg:List yak)(l:yan)(q:Bool)(d:yad)(r:List yag)(g:List yac)(nu:Int)(ns:List Int)(af:ByteArray)(pr:ByteArray)(ma:ByteArray)(fr:yaq)(mx:Int)(u:Unit)(he:QB n (5,w,b,y,i,bo,tg,l,q,d,r,g,nu,ns,af,pr,ma,fr,mx,u))(hr:QR (5,w,b,y,i,bo,tg,l,q,d,r,g,nu,ns,af,pr,ma,fr,mx,u))(h:(eP (5,w,b,y,i,bo,tg,l,q,d,r,g,nu,ns,af,pr,ma,fr,mx,u)).length≤7036874417766) :
    yar.f n (5,w,b,y,i,bo,tg,l,q,d,r,g,nu,ns,af,pr,ma,fr,mx,u)=some (ya4 (eP (5,w,b,y,i,bo,tg,l,q,d,r,g,nu,ns,af,pr,ma,fr,mx,u)),()):=by
  have hy:y.size<n:=he.y
  have h1:=ycJ y
  have h2:=ydw i
  rw[eP_5]at h ⊢
  try simp only[List.length_append]at h
  rw[yar.e0]
  try dsimp only
  rw[pText hn (by omega),yaf]
  try dsimp only
  rw[pNum hn hr.i,yaf]
  try dsimp only
  rw[yal,yal,yaP (by omega),← yaE]
  simp only[yar.e1,yar.e2,yaZ,Int.reduceBEq,bIf_t,bIf_f]
  try dsimp only
  rw[pGrants (l:=g) hn he.g hn2 (by omega),yaf]
  try dsimp only
  try simp only[List.append_assoc]
theorem rf_6 {n:Nat}(hn:300≤n)(hn2:n≤536870912)(w:ByteArray)(b:ByteArray)(y:ByteArray)(i:Int)(bo:List Int)(tg:List yak)(l:yan)(q:Bool)(d:yad)(r:List yag)(g:List yac)(nu:Int)(ns:List Int)(af:ByteArray)(pr:ByteArray)(ma:ByteArray)(fr:yaq)(mx:Int)(u:Unit)(he:QB n (6,w,b,y,i,bo,tg,l,q,d,r,g,nu,ns,af,pr,ma,fr,mx,u))(hr:QR (6,w,b,y,i,bo,tg,l,q,d,r,g,nu,ns,af,pr,ma,fr,mx,u))(h:(eP (6,w,b,y,i,bo,tg,l,q,d,r,g,nu,ns,af,pr,ma,fr,mx,u)).length≤7036874417766) :
    yar.f n (6,w,b,y,i,bo,tg,l,q,d,r,g,nu,ns,af,pr,ma,fr,mx,u)=some (ya4 (eP (6,w,b,y,i,bo,tg,l,q,d,r,g,nu,ns,af,pr,ma,fr,mx,u)),()):=by
  have hy:y.size<n:=he.y
  have h1:=ycJ y
  have h2:=ydw i
  rw[eP_6]at h ⊢
  try simp only[List.length_append]at h
  rw[yar.e0]
  try dsimp only
  rw[pText hn (by omega),yaf]
  try dsimp only
  rw[pNum hn hr.i,yaf]
  try dsimp only
  rw[yal,yal,yaP (by omega),← yaE]
  simp only[yar.e1,yar.e2,yaZ,Int.reduceBEq,bIf_t,bIf_f]
  try dsimp only
  rw[pText hn (by omega),yaf]
  try dsimp only
  rw[yal,yal,yaP (by first | omega | (simp only[List.length_append];omega) | (simp only[List.length_append,yal];omega)),← yaE]
  try dsimp only
  rw[pTags (l:=tg) hn he.tg hn2 (by omega),yaf]
  try dsimp only
  rw[yal,yal,yaP (by first | omega | (simp only[List.length_append];omega) | (simp only[List.length_append,yal];omega)),← yaE]
  try dsimp only
  rw[pLock (l:=l) hn hr.l (by omega),yaf]
  try dsimp only
  rw[yal,yal,yaP (by first | omega | (simp only[List.length_append];omega) | (simp only[List.length_append,yal];omega)),← yaE]
  try dsimp only
  try simp only[List.append_assoc]
theorem rf_7 {n:Nat}(hn:300≤n)(hn2:n≤536870912)(w:ByteArray)(b:ByteArray)(y:ByteArray)(i:Int)(bo:List Int)(tg:List yak)(l:yan)(q:Bool)(d:yad)(r:List yag)(g:List yac)(nu:Int)(ns:List Int)(af:ByteArray)(pr:ByteArray)(ma:ByteArray)(fr:yaq)(mx:Int)(u:Unit)(he:QB n (7,w,b,y,i,bo,tg,l,q,d,r,g,nu,ns,af,pr,ma,fr,mx,u))(hr:QR (7,w,b,y,i,bo,tg,l,q,d,r,g,nu,ns,af,pr,ma,fr,mx,u))(h:(eP (7,w,b,y,i,bo,tg,l,q,d,r,g,nu,ns,af,pr,ma,fr,mx,u)).length≤7036874417766) :
    yar.f n (7,w,b,y,i,bo,tg,l,q,d,r,g,nu,ns,af,pr,ma,fr,mx,u)=some (ya4 (eP (7,w,b,y,i,bo,tg,l,q,d,r,g,nu,ns,af,pr,ma,fr,mx,u)),()):=by
  have hy:y.size<n:=he.y
  have h1:=ycJ y
  have h2:=ydw i
  rw[eP_7]at h ⊢
  try simp only[List.length_append]at h
  rw[yar.e0]
  try dsimp only
  rw[pText hn (by omega),yaf]
  try dsimp only
  rw[pNum hn hr.i,yaf]
  try dsimp only
  rw[yal,yal,yaP (by omega),← yaE]
  simp only[yar.e1,yar.e2,yaZ,Int.reduceBEq,bIf_t,bIf_f]
  try dsimp only
  try simp only[List.append_assoc]
theorem rf_8 {n:Nat}(hn:300≤n)(hn2:n≤536870912)(w:ByteArray)(b:ByteArray)(y:ByteArray)(i:Int)(bo:List Int)(tg:List yak)(l:yan)(q:Bool)(d:yad)(r:List yag)(g:List yac)(nu:Int)(ns:List Int)(af:ByteArray)(pr:ByteArray)(ma:ByteArray)(fr:yaq)(mx:Int)(u:Unit)(he:QB n (8,w,b,y,i,bo,tg,l,q,d,r,g,nu,ns,af,pr,ma,fr,mx,u))(hr:QR (8,w,b,y,i,bo,tg,l,q,d,r,g,nu,ns,af,pr,ma,fr,mx,u))(h:(eP (8,w,b,y,i,bo,tg,l,q,d,r,g,nu,ns,af,pr,ma,fr,mx,u)).length≤7036874417766) :
    yar.f n (8,w,b,y,i,bo,tg,l,q,d,r,g,nu,ns,af,pr,ma,fr,mx,u)=some (ya4 (eP (8,w,b,y,i,bo,tg,l,q,d,r,g,nu,ns,af,pr,ma,fr,mx,u)),()):=by
  have hy:y.size<n:=he.y
  have h1:=ycJ y
  have h2:=ydw i
  rw[eP_8]at h ⊢
  try simp only[List.length_append]at h
  rw[yar.e0]
  try dsimp only
  rw[pText hn (by omega),yaf]
  try dsimp only
  rw[pNum hn hr.i,yaf]
  try dsimp only
  rw[yal,yal,yaP (by omega),← yaE]
  simp only[yar.e1,yar.e2,yaZ,Int.reduceBEq,bIf_t,bIf_f]
  try dsimp only
  try simp only[List.append_assoc]
theorem rf_9 {n:Nat}(hn:300≤n)(hn2:n≤536870912)(w:ByteArray)(b:ByteArray)(y:ByteArray)(i:Int)(bo:List Int)(tg:List yak)(l:yan)(q:Bool)(d:yad)(r:List yag)(g:List yac)(nu:Int)(ns:List Int)(af:ByteArray)(pr:ByteArray)(ma:ByteArray)(fr:yaq)(mx:Int)(u:Unit)(he:QB n (9,w,b,y,i,bo,tg,l,q,d,r,g,nu,ns,af,pr,ma,fr,mx,u))(hr:QR (9,w,b,y,i,bo,tg,l,q,d,r,g,nu,ns,af,pr,ma,fr,mx,u))(h:(eP (9,w,b,y,i,bo,tg,l,q,d,r,g,nu,ns,af,pr,ma,fr,mx,u)).length≤7036874417766) :
    yar.f n (9,w,b,y,i,bo,tg,l,q,d,r,g,nu,ns,af,pr,ma,fr,mx,u)=some (ya4 (eP (9,w,b,y,i,bo,tg,l,q,d,r,g,nu,ns,af,pr,ma,fr,mx,u)),()):=by
  have hy:y.size<n:=he.y
  have h1:=ycJ y
  have h2:=ydw i
  rw[eP_9]at h ⊢
  try simp only[List.length_append]at h
  rw[yar.e0]
  try dsimp only
  rw[pText hn (by omega),yaf]
  try dsimp only
  rw[pNum hn hr.i,yaf]
  try dsimp only
  rw[yal,yal,yaP (by omega),← yaE]
  simp only[yar.e1,yar.e2,yaZ,Int.reduceBEq,bIf_t,bIf_f]
  try dsimp only
  try simp only[List.append_assoc]
theorem rf_10 {n:Nat}(hn:300≤n)(hn2:n≤536870912)(w:ByteArray)(b:ByteArray)(y:ByteArray)(i:Int)(bo:List Int)(tg:List yak)(l:yan)(q:Bool)(d:yad)(r:List yag)(g:List yac)(nu:Int)(ns:List Int)(af:ByteArray)(pr:ByteArray)(ma:ByteArray)(fr:yaq)(mx:Int)(u:Unit)(he:QB n (10,w,b,y,i,bo,tg,l,q,d,r,g,nu,ns,af,pr,ma,fr,mx,u))(hr:QR (10,w,b,y,i,bo,tg,l,q,d,r,g,nu,ns,af,pr,ma,fr,mx,u))(h:(eP (10,w,b,y,i,bo,tg,l,q,d,r,g,nu,ns,af,pr,ma,fr,mx,u)).length≤7036874417766) :
    yar.f n (10,w,b,y,i,bo,tg,l,q,d,r,g,nu,ns,af,pr,ma,fr,mx,u)=some (ya4 (eP (10,w,b,y,i,bo,tg,l,q,d,r,g,nu,ns,af,pr,ma,fr,mx,u)),()):=by
  have hy:y.size<n:=he.y
  have h1:=ycJ y
  have h2:=ydw i
  rw[eP_10]at h ⊢
  try simp only[List.length_append]at h
  rw[yar.e0]
  try dsimp only
  rw[pText hn (by omega),yaf]
  try dsimp only
  rw[pNum hn hr.i,yaf]
  try dsimp only
  rw[yal,yal,yaP (by omega),← yaE]
  simp only[yar.e1,yar.e2,yaZ,Int.reduceBEq,bIf_t,bIf_f]
  try dsimp only
  rw[pFlag,yaf]
  try dsimp only
  rw[yal,yal,yaP (by first | omega | (simp only[List.length_append];omega) | (simp only[List.length_append,yal];omega)),← yaE]
  try dsimp only
  try simp only[List.append_assoc]
theorem rf_11 {n:Nat}(hn:300≤n)(hn2:n≤536870912)(w:ByteArray)(b:ByteArray)(y:ByteArray)(i:Int)(bo:List Int)(tg:List yak)(l:yan)(q:Bool)(d:yad)(r:List yag)(g:List yac)(nu:Int)(ns:List Int)(af:ByteArray)(pr:ByteArray)(ma:ByteArray)(fr:yaq)(mx:Int)(u:Unit)(he:QB n (11,w,b,y,i,bo,tg,l,q,d,r,g,nu,ns,af,pr,ma,fr,mx,u))(hr:QR (11,w,b,y,i,bo,tg,l,q,d,r,g,nu,ns,af,pr,ma,fr,mx,u))(h:(eP (11,w,b,y,i,bo,tg,l,q,d,r,g,nu,ns,af,pr,ma,fr,mx,u)).length≤7036874417766) :
    yar.f n (11,w,b,y,i,bo,tg,l,q,d,r,g,nu,ns,af,pr,ma,fr,mx,u)=some (ya4 (eP (11,w,b,y,i,bo,tg,l,q,d,r,g,nu,ns,af,pr,ma,fr,mx,u)),()):=by
  have hy:y.size<n:=he.y
  have h1:=ycJ y
  have h2:=ydw i
  rw[eP_11]at h ⊢
  try simp only[List.length_append]at h
  rw[yar.e0]
  try dsimp only
  rw[pText hn (by omega),yaf]
  try dsimp only
  rw[pNum hn hr.i,yaf]
  try dsimp only
  rw[yal,yal,yaP (by omega),← yaE]
  simp only[yar.e1,yar.e2,yaZ,Int.reduceBEq,bIf_t,bIf_f]
  try dsimp only
  rw[pLock (l:=l) hn hr.l (by omega),yaf]
  try dsimp only
  rw[yal,yal,yaP (by first | omega | (simp only[List.length_append];omega) | (simp only[List.length_append,yal];omega)),← yaE]
  try dsimp only
  rw[pFlag,yaf]
  try dsimp only
  rw[yal,yal,yaP (by first | omega | (simp only[List.length_append];omega) | (simp only[List.length_append,yal];omega)),← yaE]
  try dsimp only
  try simp only[List.append_assoc]
theorem rf_12 {n:Nat}(hn:300≤n)(hn2:n≤536870912)(w:ByteArray)(b:ByteArray)(y:ByteArray)(i:Int)(bo:List Int)(tg:List yak)(l:yan)(q:Bool)(d:yad)(r:List yag)(g:List yac)(nu:Int)(ns:List Int)(af:ByteArray)(pr:ByteArray)(ma:ByteArray)(fr:yaq)(mx:Int)(u:Unit)(he:QB n (12,w,b,y,i,bo,tg,l,q,d,r,g,nu,ns,af,pr,ma,fr,mx,u))(hr:QR (12,w,b,y,i,bo,tg,l,q,d,r,g,nu,ns,af,pr,ma,fr,mx,u))(h:(eP (12,w,b,y,i,bo,tg,l,q,d,r,g,nu,ns,af,pr,ma,fr,mx,u)).length≤7036874417766) :
    yar.f n (12,w,b,y,i,bo,tg,l,q,d,r,g,nu,ns,af,pr,ma,fr,mx,u)=some (ya4 (eP (12,w,b,y,i,bo,tg,l,q,d,r,g,nu,ns,af,pr,ma,fr,mx,u)),()):=by
  have hy:y.size<n:=he.y
  have h1:=ycJ y
  have h2:=ydw i
  rw[eP_12]at h ⊢
  try simp only[List.length_append]at h
  rw[yar.e0]
  try dsimp only
  rw[pText hn (by omega),yaf]
  try dsimp only
  rw[pNum hn hr.i,yaf]
  try dsimp only
  rw[yal,yal,yaP (by omega),← yaE]
  simp only[yar.e1,yar.e2,yaZ,Int.reduceBEq,bIf_t,bIf_f]
  try dsimp only
  rw[pLock (l:=l) hn hr.l (by omega),yaf]
  try dsimp only
  rw[yal,yal,yaP (by first | omega | (simp only[List.length_append];omega) | (simp only[List.length_append,yal];omega)),← yaE]
  try dsimp only
  try simp only[List.append_assoc]
theorem rf_13 {n:Nat}(hn:300≤n)(hn2:n≤536870912)(w:ByteArray)(b:ByteArray)(y:ByteArray)(i:Int)(bo:List Int)(tg:List yak)(l:yan)(q:Bool)(d:yad)(r:List yag)(g:List yac)(nu:Int)(ns:List Int)(af:ByteArray)(pr:ByteArray)(ma:ByteArray)(fr:yaq)(mx:Int)(u:Unit)(he:QB n (13,w,b,y,i,bo,tg,l,q,d,r,g,nu,ns,af,pr,ma,fr,mx,u))(hr:QR (13,w,b,y,i,bo,tg,l,q,d,r,g,nu,ns,af,pr,ma,fr,mx,u))(h:(eP (13,w,b,y,i,bo,tg,l,q,d,r,g,nu,ns,af,pr,ma,fr,mx,u)).length≤7036874417766) :
    yar.f n (13,w,b,y,i,bo,tg,l,q,d,r,g,nu,ns,af,pr,ma,fr,mx,u)=some (ya4 (eP (13,w,b,y,i,bo,tg,l,q,d,r,g,nu,ns,af,pr,ma,fr,mx,u)),()):=by
  have hy:y.size<n:=he.y
  have h1:=ycJ y
  have h2:=ydw i
  rw[eP_13]at h ⊢
  try simp only[List.length_append]at h
  rw[yar.e0]
  try dsimp only
  rw[pText hn (by omega),yaf]
  try dsimp only
  rw[pNum hn hr.i,yaf]
  try dsimp only
  rw[yal,yal,yaP (by omega),← yaE]
  simp only[yar.e1,yar.e2,yaZ,Int.reduceBEq,bIf_t,bIf_f]
  try dsimp only
  rw[pTags (l:=tg) hn he.tg hn2 (by omega),yaf]
  try dsimp only
  rw[yal,yal,yaP (by first | omega | (simp only[List.length_append];omega) | (simp only[List.length_append,yal];omega)),← yaE]
  try dsimp only
  try simp only[List.append_assoc]
theorem rf_14 {n:Nat}(hn:300≤n)(hn2:n≤536870912)(w:ByteArray)(b:ByteArray)(y:ByteArray)(i:Int)(bo:List Int)(tg:List yak)(l:yan)(q:Bool)(d:yad)(r:List yag)(g:List yac)(nu:Int)(ns:List Int)(af:ByteArray)(pr:ByteArray)(ma:ByteArray)(fr:yaq)(mx:Int)(u:Unit)(he:QB n (14,w,b,y,i,bo,tg,l,q,d,r,g,nu,ns,af,pr,ma,fr,mx,u))(hr:QR (14,w,b,y,i,bo,tg,l,q,d,r,g,nu,ns,af,pr,ma,fr,mx,u))(h:(eP (14,w,b,y,i,bo,tg,l,q,d,r,g,nu,ns,af,pr,ma,fr,mx,u)).length≤7036874417766) :
    yar.f n (14,w,b,y,i,bo,tg,l,q,d,r,g,nu,ns,af,pr,ma,fr,mx,u)=some (ya4 (eP (14,w,b,y,i,bo,tg,l,q,d,r,g,nu,ns,af,pr,ma,fr,mx,u)),()):=by
  have hy:y.size<n:=he.y
  have h1:=ycJ y
  have h2:=ydw i
  rw[eP_14]at h ⊢
  try simp only[List.length_append]at h
  rw[yar.e0]
  try dsimp only
  rw[pText hn (by omega),yaf]
  try dsimp only
  rw[pNum hn hr.i,yaf]
  try dsimp only
  rw[yal,yal,yaP (by omega),← yaE]
  simp only[yar.e1,yar.e2,yaZ,Int.reduceBEq,bIf_t,bIf_f]
  try dsimp only
  rw[pText hn (by omega),yaf]
  try dsimp only
  rw[pText hn (by omega),yaf]
  try dsimp only
  rw[yal,yal,yaP (by first | omega | (simp only[List.length_append];omega) | (simp only[List.length_append,yal];omega)),← yaE]
  try dsimp only
  rw[pText hn (by omega),yaf]
  try dsimp only
  rw[yal,yal,yaP (by first | omega | (simp only[List.length_append];omega) | (simp only[List.length_append,yal];omega)),← yaE]
  try dsimp only
  rw[qNum hn,yaf]
  try dsimp only
  rw[yal,yal,yaP (by first | omega | (simp only[List.length_append];omega) | (simp only[List.length_append,yal];omega)),← yaE]
  try dsimp only
  try simp only[List.append_assoc]
theorem rf_15 {n:Nat}(hn:300≤n)(hn2:n≤536870912)(w:ByteArray)(b:ByteArray)(y:ByteArray)(i:Int)(bo:List Int)(tg:List yak)(l:yan)(q:Bool)(d:yad)(r:List yag)(g:List yac)(nu:Int)(ns:List Int)(af:ByteArray)(pr:ByteArray)(ma:ByteArray)(fr:yaq)(mx:Int)(u:Unit)(he:QB n (15,w,b,y,i,bo,tg,l,q,d,r,g,nu,ns,af,pr,ma,fr,mx,u))(hr:QR (15,w,b,y,i,bo,tg,l,q,d,r,g,nu,ns,af,pr,ma,fr,mx,u))(h:(eP (15,w,b,y,i,bo,tg,l,q,d,r,g,nu,ns,af,pr,ma,fr,mx,u)).length≤7036874417766) :
    yar.f n (15,w,b,y,i,bo,tg,l,q,d,r,g,nu,ns,af,pr,ma,fr,mx,u)=some (ya4 (eP (15,w,b,y,i,bo,tg,l,q,d,r,g,nu,ns,af,pr,ma,fr,mx,u)),()):=by
  have hy:y.size<n:=he.y
  have h1:=ycJ y
  have h2:=ydw i
  rw[eP_15]at h ⊢
  try simp only[List.length_append]at h
  rw[yar.e0]
  try dsimp only
  rw[pText hn (by omega),yaf]
  try dsimp only
  rw[pNum hn hr.i,yaf]
  try dsimp only
  rw[yal,yal,yaP (by omega),← yaE]
  simp only[yar.e1,yar.e2,yaZ,Int.reduceBEq,bIf_t,bIf_f]
  try dsimp only
  rw[pText hn (by omega),yaf]
  try dsimp only
  rw[pText hn (by omega),yaf]
  try dsimp only
  rw[yal,yal,yaP (by first | omega | (simp only[List.length_append];omega) | (simp only[List.length_append,yal];omega)),← yaE]
  try dsimp only
  rw[pNum hn hr.fi,yaf]
  try dsimp only
  rw[yal,yal,yaP (by first | omega | (simp only[List.length_append];omega) | (simp only[List.length_append,yal];omega)),← yaE]
  try dsimp only
  rw[qNum hn,yaf]
  try dsimp only
  rw[yal,yal,yaP (by first | omega | (simp only[List.length_append];omega) | (simp only[List.length_append,yal];omega)),← yaE]
  try dsimp only
  try simp only[List.append_assoc]
theorem rf_16 {n:Nat}(hn:300≤n)(hn2:n≤536870912)(w:ByteArray)(b:ByteArray)(y:ByteArray)(i:Int)(bo:List Int)(tg:List yak)(l:yan)(q:Bool)(d:yad)(r:List yag)(g:List yac)(nu:Int)(ns:List Int)(af:ByteArray)(pr:ByteArray)(ma:ByteArray)(fr:yaq)(mx:Int)(u:Unit)(he:QB n (16,w,b,y,i,bo,tg,l,q,d,r,g,nu,ns,af,pr,ma,fr,mx,u))(hr:QR (16,w,b,y,i,bo,tg,l,q,d,r,g,nu,ns,af,pr,ma,fr,mx,u))(h:(eP (16,w,b,y,i,bo,tg,l,q,d,r,g,nu,ns,af,pr,ma,fr,mx,u)).length≤7036874417766) :
    yar.f n (16,w,b,y,i,bo,tg,l,q,d,r,g,nu,ns,af,pr,ma,fr,mx,u)=some (ya4 (eP (16,w,b,y,i,bo,tg,l,q,d,r,g,nu,ns,af,pr,ma,fr,mx,u)),()):=by
  have hy:y.size<n:=he.y
  have h1:=ycJ y
  have h2:=ydw i
  rw[eP_16]at h ⊢
  try simp only[List.length_append]at h
  rw[yar.e0]
  try dsimp only
  rw[pText hn (by omega),yaf]
  try dsimp only
  rw[pNum hn hr.i,yaf]
  try dsimp only
  rw[yal,yal,yaP (by omega),← yaE]
  simp only[yar.e1,yar.e2,yaZ,Int.reduceBEq,bIf_t,bIf_f]
  try dsimp only
  rw[pTags (l:=tg) hn he.tg hn2 (by omega),yaf]
  try dsimp only
  rw[yal,yal,yaP (by first | omega | (simp only[List.length_append];omega) | (simp only[List.length_append,yal];omega)),← yaE]
  try dsimp only
  try simp only[List.append_assoc]
theorem rf_17 {n:Nat}(hn:300≤n)(hn2:n≤536870912)(w:ByteArray)(b:ByteArray)(y:ByteArray)(i:Int)(bo:List Int)(tg:List yak)(l:yan)(q:Bool)(d:yad)(r:List yag)(g:List yac)(nu:Int)(ns:List Int)(af:ByteArray)(pr:ByteArray)(ma:ByteArray)(fr:yaq)(mx:Int)(u:Unit)(he:QB n (17,w,b,y,i,bo,tg,l,q,d,r,g,nu,ns,af,pr,ma,fr,mx,u))(hr:QR (17,w,b,y,i,bo,tg,l,q,d,r,g,nu,ns,af,pr,ma,fr,mx,u))(h:(eP (17,w,b,y,i,bo,tg,l,q,d,r,g,nu,ns,af,pr,ma,fr,mx,u)).length≤7036874417766) :
    yar.f n (17,w,b,y,i,bo,tg,l,q,d,r,g,nu,ns,af,pr,ma,fr,mx,u)=some (ya4 (eP (17,w,b,y,i,bo,tg,l,q,d,r,g,nu,ns,af,pr,ma,fr,mx,u)),()):=by
  have hy:y.size<n:=he.y
  have h1:=ycJ y
  have h2:=ydw i
  rw[eP_17]at h ⊢
  try simp only[List.length_append]at h
  rw[yar.e0]
  try dsimp only
  rw[pText hn (by omega),yaf]
  try dsimp only
  rw[pNum hn hr.i,yaf]
  try dsimp only
  rw[yal,yal,yaP (by omega),← yaE]
  simp only[yar.e1,yar.e2,yaZ,Int.reduceBEq,bIf_t,bIf_f]
  try dsimp only
  rw[pNum hn hr.i,yaf]
  try dsimp only
  rw[qNum hn,yaf]
  try dsimp only
  rw[yal,yal,yaP (by first | omega | (simp only[List.length_append];omega) | (simp only[List.length_append,yal];omega)),← yaE]
  try dsimp only
  rw[pText hn (by omega),yaf]
  try dsimp only
  rw[yal,yal,yaP (by first | omega | (simp only[List.length_append];omega) | (simp only[List.length_append,yal];omega)),← yaE]
  try dsimp only
  try simp only[List.append_assoc]
theorem rf_18 {n:Nat}(hn:300≤n)(hn2:n≤536870912)(w:ByteArray)(b:ByteArray)(y:ByteArray)(i:Int)(bo:List Int)(tg:List yak)(l:yan)(q:Bool)(d:yad)(r:List yag)(g:List yac)(nu:Int)(ns:List Int)(af:ByteArray)(pr:ByteArray)(ma:ByteArray)(fr:yaq)(mx:Int)(u:Unit)(he:QB n (18,w,b,y,i,bo,tg,l,q,d,r,g,nu,ns,af,pr,ma,fr,mx,u))(hr:QR (18,w,b,y,i,bo,tg,l,q,d,r,g,nu,ns,af,pr,ma,fr,mx,u))(h:(eP (18,w,b,y,i,bo,tg,l,q,d,r,g,nu,ns,af,pr,ma,fr,mx,u)).length≤7036874417766) :
    yar.f n (18,w,b,y,i,bo,tg,l,q,d,r,g,nu,ns,af,pr,ma,fr,mx,u)=some (ya4 (eP (18,w,b,y,i,bo,tg,l,q,d,r,g,nu,ns,af,pr,ma,fr,mx,u)),()):=by
  have hy:y.size<n:=he.y
  have h1:=ycJ y
  have h2:=ydw i
  rw[eP_18]at h ⊢
  try simp only[List.length_append]at h
  rw[yar.e0]
  try dsimp only
  rw[pText hn (by omega),yaf]
  try dsimp only
  rw[pNum hn hr.i,yaf]
  try dsimp only
  rw[yal,yal,yaP (by omega),← yaE]
  simp only[yar.e1,yar.e2,yaZ,Int.reduceBEq,bIf_t,bIf_f]
  try dsimp only
  rw[pNum hn hr.i,yaf]
  try dsimp only
  rw[qNum hn,yaf]
  try dsimp only
  rw[yal,yal,yaP (by first | omega | (simp only[List.length_append];omega) | (simp only[List.length_append,yal];omega)),← yaE]
  try dsimp only
  have hlen:ns.length<n:=he.ns
  have:=app_loop (l:=ns) (0:Int) eI 70368744177664 (λm k L=>yar.J3 n m (ya4 L,k,(18,w,b,y,i,bo,tg,l,q,d,r,g,nu,ns,af,pr,ma,fr,mx,u),())) (λL=>some (ya4 L,()))
    (λm k L hk hL=>by
      have hx:I64 (ns.getD k 0):=hr.ns _ (ydR (d:=0) hk)
      try dsimp only
      rw[yar.e3,yaB]
      try dsimp only
      rw[decide_eq_true (by omega),yaR,yaP ⟨by omega,by omega⟩,Int.toNat_natCast,ybU k (by omega)]
      try dsimp only
      rw[pInt hn hx,yaf,yal,yal,yaP (by omega),← yaE])
    (λm L hL=>by
      try dsimp only
      rw[yar.e3,yaB]
      try dsimp only
      rw[decide_eq_false (by omega),yaA,yar.e4]) n 0 _ (by omega) (by omega) (show (eN i++eW ((ns.length:Nat):Int)).length+((ns.drop 0).flatMap eI).length≤70368744177664 by rw[List.drop_zero];simp only[List.length_append];omega)
  try dsimp only at this
  rw[show ((0:Nat):Int)=0 from rfl,List.drop_zero]at this
  rw[this]
  try simp only[List.append_assoc]
theorem rf_19 {n:Nat}(hn:300≤n)(hn2:n≤536870912)(w:ByteArray)(b:ByteArray)(y:ByteArray)(i:Int)(bo:List Int)(tg:List yak)(l:yan)(q:Bool)(d:yad)(r:List yag)(g:List yac)(nu:Int)(ns:List Int)(af:ByteArray)(pr:ByteArray)(ma:ByteArray)(fr:yaq)(mx:Int)(u:Unit)(he:QB n (19,w,b,y,i,bo,tg,l,q,d,r,g,nu,ns,af,pr,ma,fr,mx,u))(hr:QR (19,w,b,y,i,bo,tg,l,q,d,r,g,nu,ns,af,pr,ma,fr,mx,u))(h:(eP (19,w,b,y,i,bo,tg,l,q,d,r,g,nu,ns,af,pr,ma,fr,mx,u)).length≤7036874417766) :
    yar.f n (19,w,b,y,i,bo,tg,l,q,d,r,g,nu,ns,af,pr,ma,fr,mx,u)=some (ya4 (eP (19,w,b,y,i,bo,tg,l,q,d,r,g,nu,ns,af,pr,ma,fr,mx,u)),()):=by
  have hy:y.size<n:=he.y
  have h1:=ycJ y
  have h2:=ydw i
  rw[eP_19]at h ⊢
  try simp only[List.length_append]at h
  rw[yar.e0]
  try dsimp only
  rw[pText hn (by omega),yaf]
  try dsimp only
  rw[pNum hn hr.i,yaf]
  try dsimp only
  rw[yal,yal,yaP (by omega),← yaE]
  simp only[yar.e1,yar.e2,yaZ,Int.reduceBEq,bIf_t,bIf_f]
  try dsimp only
  rw[pNum hn hr.i,yaf]
  try dsimp only
  try simp only[List.append_assoc]
theorem rf_20 {n:Nat}(hn:300≤n)(hn2:n≤536870912)(w:ByteArray)(b:ByteArray)(y:ByteArray)(i:Int)(bo:List Int)(tg:List yak)(l:yan)(q:Bool)(d:yad)(r:List yag)(g:List yac)(nu:Int)(ns:List Int)(af:ByteArray)(pr:ByteArray)(ma:ByteArray)(fr:yaq)(mx:Int)(u:Unit)(he:QB n (20,w,b,y,i,bo,tg,l,q,d,r,g,nu,ns,af,pr,ma,fr,mx,u))(hr:QR (20,w,b,y,i,bo,tg,l,q,d,r,g,nu,ns,af,pr,ma,fr,mx,u))(h:(eP (20,w,b,y,i,bo,tg,l,q,d,r,g,nu,ns,af,pr,ma,fr,mx,u)).length≤7036874417766) :
    yar.f n (20,w,b,y,i,bo,tg,l,q,d,r,g,nu,ns,af,pr,ma,fr,mx,u)=some (ya4 (eP (20,w,b,y,i,bo,tg,l,q,d,r,g,nu,ns,af,pr,ma,fr,mx,u)),()):=by
  have hy:y.size<n:=he.y
  have h1:=ycJ y
  have h2:=ydw i
  rw[eP_20]at h ⊢
  try simp only[List.length_append]at h
  rw[yar.e0]
  try dsimp only
  rw[pText hn (by omega),yaf]
  try dsimp only
  rw[pNum hn hr.i,yaf]
  try dsimp only
  rw[yal,yal,yaP (by omega),← yaE]
  simp only[yar.e1,yar.e2,yaZ,Int.reduceBEq,bIf_t,bIf_f]
  try dsimp only
  rw[pText hn (by omega),yaf]
  try dsimp only
  rw[yal,yal,yaP (by first | omega | (simp only[List.length_append];omega) | (simp only[List.length_append,yal];omega)),← yaE]
  try dsimp only
  rw[pText hn (by omega),yaf]
  try dsimp only
  rw[yal,yal,yaP (by first | omega | (simp only[List.length_append];omega) | (simp only[List.length_append,yal];omega)),← yaE]
  try dsimp only
  rw[pNum hn hr.fi,yaf]
  try dsimp only
  rw[yal,yal,yaP (by first | omega | (simp only[List.length_append];omega) | (simp only[List.length_append,yal];omega)),← yaE]
  try dsimp only
  try simp only[List.append_assoc]
theorem rf_21 {n:Nat}(hn:300≤n)(hn2:n≤536870912)(w:ByteArray)(b:ByteArray)(y:ByteArray)(i:Int)(bo:List Int)(tg:List yak)(l:yan)(q:Bool)(d:yad)(r:List yag)(g:List yac)(nu:Int)(ns:List Int)(af:ByteArray)(pr:ByteArray)(ma:ByteArray)(fr:yaq)(mx:Int)(u:Unit)(he:QB n (21,w,b,y,i,bo,tg,l,q,d,r,g,nu,ns,af,pr,ma,fr,mx,u))(hr:QR (21,w,b,y,i,bo,tg,l,q,d,r,g,nu,ns,af,pr,ma,fr,mx,u))(h:(eP (21,w,b,y,i,bo,tg,l,q,d,r,g,nu,ns,af,pr,ma,fr,mx,u)).length≤7036874417766) :
    yar.f n (21,w,b,y,i,bo,tg,l,q,d,r,g,nu,ns,af,pr,ma,fr,mx,u)=some (ya4 (eP (21,w,b,y,i,bo,tg,l,q,d,r,g,nu,ns,af,pr,ma,fr,mx,u)),()):=by
  have hy:y.size<n:=he.y
  have h1:=ycJ y
  have h2:=ydw i
  rw[eP_21]at h ⊢
  try simp only[List.length_append]at h
  rw[yar.e0]
  try dsimp only
  rw[pText hn (by omega),yaf]
  try dsimp only
  rw[pNum hn hr.i,yaf]
  try dsimp only
  rw[yal,yal,yaP (by omega),← yaE]
  simp only[yar.e1,yar.e2,yaZ,Int.reduceBEq,bIf_t,bIf_f]
  try dsimp only
  try (rw[yar.e5];rfl)
  try simp only[List.append_assoc]
theorem rf_22 {n:Nat}(hn:300≤n)(hn2:n≤536870912)(w:ByteArray)(b:ByteArray)(y:ByteArray)(i:Int)(bo:List Int)(tg:List yak)(l:yan)(q:Bool)(d:yad)(r:List yag)(g:List yac)(nu:Int)(ns:List Int)(af:ByteArray)(pr:ByteArray)(ma:ByteArray)(fr:yaq)(mx:Int)(u:Unit)(he:QB n (22,w,b,y,i,bo,tg,l,q,d,r,g,nu,ns,af,pr,ma,fr,mx,u))(hr:QR (22,w,b,y,i,bo,tg,l,q,d,r,g,nu,ns,af,pr,ma,fr,mx,u))(h:(eP (22,w,b,y,i,bo,tg,l,q,d,r,g,nu,ns,af,pr,ma,fr,mx,u)).length≤7036874417766) :
    yar.f n (22,w,b,y,i,bo,tg,l,q,d,r,g,nu,ns,af,pr,ma,fr,mx,u)=some (ya4 (eP (22,w,b,y,i,bo,tg,l,q,d,r,g,nu,ns,af,pr,ma,fr,mx,u)),()):=by
  have hy:y.size<n:=he.y
  have h1:=ycJ y
  have h2:=ydw i
  rw[eP_22]at h ⊢
  try simp only[List.length_append]at h
  rw[yar.e0]
  try dsimp only
  rw[pText hn (by omega),yaf]
  try dsimp only
  rw[pNum hn hr.i,yaf]
  try dsimp only
  rw[yal,yal,yaP (by omega),← yaE]
  simp only[yar.e1,yar.e2,yaZ,Int.reduceBEq,bIf_t,bIf_f]
  try dsimp only
  try (rw[yar.e5];rfl)
  try simp only[List.append_assoc]
end Go.Proofs.YtcpkhpboemfglaaGreatDoor

namespace Go.Proofs.YtcpkhpboemfglaaGreatDoor
open Go Go.Va Go.Proofs
structure SndQ (e:Q):Prop where
  kind:1≤e.1∧e.1≤22
  w:e.2.1.size≤64
  b:(if 21≤e.1 then eqS e.2.2.1 ⟨#[]⟩ else ybf e.2.2.1)=true
  f107:fld (hasQ e.1) 107 (keyB e.2.2.2.1) (eqS e.2.2.2.1 ⟨#[]⟩)=true
  f105:fld (hasQ e.1) 105 (decide (e.2.2.2.2.1≥ydU e.1)) ((e.2.2.2.2.1==0))=true
  f66:fld (hasQ e.1) 66 (decide (((e.2.2.2.2.2.1.length:Nat):Int)≤1024)) ((((e.2.2.2.2.2.1.length:Nat):Int)==0))=true
  f116:fld (hasQ e.1) 116 (tagsB e.2.2.2.2.2.2.1) ((((e.2.2.2.2.2.2.1.length:Nat):Int)==0))=true
  f108:fld (hasQ e.1) 108 ((lockB e.2.2.2.2.2.2.2.1&&lockK e.1 e.2.2.2.2.2.2.2.1)) (eqD yaT e.2.2.2.2.2.2.2.1 lockZ)=true
  f121:fld (hasQ e.1) 121 (true) ((!e.2.2.2.2.2.2.2.2.1))=true
  f100:fld (hasQ e.1) 100 (modeB e.2.2.2.2.2.2.2.2.2.1) (eqD yaC e.2.2.2.2.2.2.2.2.2.1 (0,(0,())))=true
  f114:fld (hasQ e.1) 114 (ydf e.2.2.2.2.2.2.2.2.2.2.1) ((((e.2.2.2.2.2.2.2.2.2.2.1.length:Nat):Int)==0))=true
  f103:fld (hasQ e.1) 103 (ycv e.2.2.2.2.2.2.2.2.2.2.2.1) ((((e.2.2.2.2.2.2.2.2.2.2.2.1.length:Nat):Int)==0))=true
  f110:fld (hasQ e.1) 110 ((decide (e.2.2.2.2.2.2.2.2.2.2.2.2.1≥1)&&decide (e.2.2.2.2.2.2.2.2.2.2.2.2.1≤10000))) ((e.2.2.2.2.2.2.2.2.2.2.2.2.1==0))=true
  f78:fld (hasQ e.1) 78 (decide (((e.2.2.2.2.2.2.2.2.2.2.2.2.2.1.length:Nat):Int)≤16)) ((((e.2.2.2.2.2.2.2.2.2.2.2.2.2.1.length:Nat):Int)==0))=true
  f97:fld (hasQ e.1) 97 (nameB e.2.2.2.2.2.2.2.2.2.2.2.2.2.2.1) (eqS e.2.2.2.2.2.2.2.2.2.2.2.2.2.2.1 ⟨#[]⟩)=true
  f112:fld (hasQ e.1) 112 (nameB e.2.2.2.2.2.2.2.2.2.2.2.2.2.2.2.1) (eqS e.2.2.2.2.2.2.2.2.2.2.2.2.2.2.2.1 ⟨#[]⟩)=true
  f109:fld (hasQ e.1) 109 (nameB e.2.2.2.2.2.2.2.2.2.2.2.2.2.2.2.2.1) (eqS e.2.2.2.2.2.2.2.2.2.2.2.2.2.2.2.2.1 ⟨#[]⟩)=true
  f102:fld (hasQ e.1) 102 (fromK e.1 e.2.2.2.2.2.2.2.2.2.2.2.2.2.2.2.2.2.1) (eqD ya1 e.2.2.2.2.2.2.2.2.2.2.2.2.2.2.2.2.2.1 spotZ)=true
  f120:fld (hasQ e.1) 120 ((decide (e.2.2.2.2.2.2.2.2.2.2.2.2.2.2.2.2.2.2.1≥1)&&decide (e.2.2.2.2.2.2.2.2.2.2.2.2.2.2.2.2.2.2.1≤100))) ((e.2.2.2.2.2.2.2.2.2.2.2.2.2.2.2.2.2.2.1==0))=true
theorem sndQ_of {e:Q}(h:goodQ e=true):SndQ e:=by
  unfold goodQ at h
  simp only[Bool.and_eq_true]at h
  obtain⟨⟨h1,h2⟩,h3,h4,h5,f107_,f105_,f66_,f116_,f108_,f121_,f100_,f114_,f103_,f110_,f78_,f97_,f112_,f109_,f102_,f120_⟩:=h
  have h3:decide (((e.2.1.size:Nat):Int)>64)=false:=by
    cases hh:decide (((e.2.1.size:Nat):Int)>64)
    · rfl
    · rw[hh]at h3;exact nomatch h3
  have h3:=of_decide_eq_false h3
  exact⟨⟨of_decide_eq_true h1,of_decide_eq_true h2⟩,by omega,h5,f107_,f105_,f66_,f116_,f108_,f121_,f100_,f114_,f103_,f110_,f78_,f97_,f112_,f109_,f102_,f120_⟩
theorem ybe {k:Int}{c:Nat}{g z:Bool}(h:fld (hasQ k) c g z=true)(hi:inB (hasQ k) c=true):g=true:=by
  unfold fld at h;rw[if_pos hi]at h;exact h
theorem yap {k:Int}{c:Nat}{g z:Bool}(h:fld (hasQ k) c g z=true)(hi:inB (hasQ k) c=false):z=true:=by
  unfold fld at h;rw[if_neg (by rw[hi];decide)]at h;exact h
theorem yeH {s:ByteArray}(h:nameB s=true):s.size≤200:=by
  unfold nameB at h
  simp only[Bool.and_eq_true,decide_eq_true_iff]at h;exact h.1
theorem eP_len_1 (w:ByteArray)(b:ByteArray)(y:ByteArray)(i:Int)(bo:List Int)(tg:List yak)(l:yan)(q:Bool)(d:yad)(r:List yag)(g:List yac)(nu:Int)(ns:List Int)(af:ByteArray)(pr:ByteArray)(ma:ByteArray)(fr:yaq)(mx:Int)(u:Unit)(h:SndQ (1,w,b,y,i,bo,tg,l,q,d,r,g,nu,ns,af,pr,ma,fr,mx,u)):(eP (1,w,b,y,i,bo,tg,l,q,d,r,g,nu,ns,af,pr,ma,fr,mx,u)).length≤20000:=by
  rw[eP_1]
  have:=eW_len d.1
  have:=eW_len d.2.1
  unfold eDef
  try simp only[List.length_append]
  first | omega | simp
theorem eP_len_2 (w:ByteArray)(b:ByteArray)(y:ByteArray)(i:Int)(bo:List Int)(tg:List yak)(l:yan)(q:Bool)(d:yad)(r:List yag)(g:List yac)(nu:Int)(ns:List Int)(af:ByteArray)(pr:ByteArray)(ma:ByteArray)(fr:yaq)(mx:Int)(u:Unit)(h:SndQ (2,w,b,y,i,bo,tg,l,q,d,r,g,nu,ns,af,pr,ma,fr,mx,u)):(eP (2,w,b,y,i,bo,tg,l,q,d,r,g,nu,ns,af,pr,ma,fr,mx,u)).length≤20000:=by
  rw[eP_2]
  try simp only[List.length_append]
  first | omega | simp
theorem eP_len_3 (w:ByteArray)(b:ByteArray)(y:ByteArray)(i:Int)(bo:List Int)(tg:List yak)(l:yan)(q:Bool)(d:yad)(r:List yag)(g:List yac)(nu:Int)(ns:List Int)(af:ByteArray)(pr:ByteArray)(ma:ByteArray)(fr:yaq)(mx:Int)(u:Unit)(h:SndQ (3,w,b,y,i,bo,tg,l,q,d,r,g,nu,ns,af,pr,ma,fr,mx,u)):(eP (3,w,b,y,i,bo,tg,l,q,d,r,g,nu,ns,af,pr,ma,fr,mx,u)).length≤20000:=by
  rw[eP_3]
  have:=eW_len d.1
  have:=eW_len d.2.1
  unfold eDef
  try simp only[List.length_append]
  first | omega | simp
theorem eP_len_4 (w:ByteArray)(b:ByteArray)(y:ByteArray)(i:Int)(bo:List Int)(tg:List yak)(l:yan)(q:Bool)(d:yad)(r:List yag)(g:List yac)(nu:Int)(ns:List Int)(af:ByteArray)(pr:ByteArray)(ma:ByteArray)(fr:yaq)(mx:Int)(u:Unit)(h:SndQ (4,w,b,y,i,bo,tg,l,q,d,r,g,nu,ns,af,pr,ma,fr,mx,u)):(eP (4,w,b,y,i,bo,tg,l,q,d,r,g,nu,ns,af,pr,ma,fr,mx,u)).length≤20000:=by
  rw[eP_4]
  have k4:ydf r=true:=ybe h.f114 (show inB (hasQ 4) 114=true by decide +kernel)
  have:=rulesB_len k4
  try simp only[List.length_append]
  first | omega | simp
theorem eP_len_5 (w:ByteArray)(b:ByteArray)(y:ByteArray)(i:Int)(bo:List Int)(tg:List yak)(l:yan)(q:Bool)(d:yad)(r:List yag)(g:List yac)(nu:Int)(ns:List Int)(af:ByteArray)(pr:ByteArray)(ma:ByteArray)(fr:yaq)(mx:Int)(u:Unit)(h:SndQ (5,w,b,y,i,bo,tg,l,q,d,r,g,nu,ns,af,pr,ma,fr,mx,u)):(eP (5,w,b,y,i,bo,tg,l,q,d,r,g,nu,ns,af,pr,ma,fr,mx,u)).length≤20000:=by
  rw[eP_5]
  have k5:ycv g=true:=ybe h.f103 (show inB (hasQ 5) 103=true by decide +kernel)
  have:=grantsB_len k5
  try simp only[List.length_append]
  first | omega | simp
theorem eP_len_6 (w:ByteArray)(b:ByteArray)(y:ByteArray)(i:Int)(bo:List Int)(tg:List yak)(l:yan)(q:Bool)(d:yad)(r:List yag)(g:List yac)(nu:Int)(ns:List Int)(af:ByteArray)(pr:ByteArray)(ma:ByteArray)(fr:yaq)(mx:Int)(u:Unit)(h:SndQ (6,w,b,y,i,bo,tg,l,q,d,r,g,nu,ns,af,pr,ma,fr,mx,u)):(eP (6,w,b,y,i,bo,tg,l,q,d,r,g,nu,ns,af,pr,ma,fr,mx,u)).length≤20000:=by
  rw[eP_6]
  have k1:y.size≤200:=ydk (ybe h.f107 (show inB (hasQ 6) 107=true by decide +kernel))
  have:=ycJ y
  have k2:((bo.length:Nat):Int)≤1024:=of_decide_eq_true (ybe h.f66 (show inB (hasQ 6) 66=true by decide +kernel))
  have:=ycJ (ya4 bo)
  rw[yal]at this
  have k3:tagsB tg=true:=ybe h.f116 (show inB (hasQ 6) 116=true by decide +kernel)
  have:=eTags_len k3
  have:=eLock_len l
  try simp only[List.length_append]
  first | omega | simp
theorem eP_len_7 (w:ByteArray)(b:ByteArray)(y:ByteArray)(i:Int)(bo:List Int)(tg:List yak)(l:yan)(q:Bool)(d:yad)(r:List yag)(g:List yac)(nu:Int)(ns:List Int)(af:ByteArray)(pr:ByteArray)(ma:ByteArray)(fr:yaq)(mx:Int)(u:Unit)(h:SndQ (7,w,b,y,i,bo,tg,l,q,d,r,g,nu,ns,af,pr,ma,fr,mx,u)):(eP (7,w,b,y,i,bo,tg,l,q,d,r,g,nu,ns,af,pr,ma,fr,mx,u)).length≤20000:=by
  rw[eP_7]
  have k1:y.size≤200:=ydk (ybe h.f107 (show inB (hasQ 7) 107=true by decide +kernel))
  have:=ycJ y
  have:=ydw i
  try simp only[List.length_append]
  first | omega | simp
theorem eP_len_8 (w:ByteArray)(b:ByteArray)(y:ByteArray)(i:Int)(bo:List Int)(tg:List yak)(l:yan)(q:Bool)(d:yad)(r:List yag)(g:List yac)(nu:Int)(ns:List Int)(af:ByteArray)(pr:ByteArray)(ma:ByteArray)(fr:yaq)(mx:Int)(u:Unit)(h:SndQ (8,w,b,y,i,bo,tg,l,q,d,r,g,nu,ns,af,pr,ma,fr,mx,u)):(eP (8,w,b,y,i,bo,tg,l,q,d,r,g,nu,ns,af,pr,ma,fr,mx,u)).length≤20000:=by
  rw[eP_8]
  have k1:y.size≤200:=ydk (ybe h.f107 (show inB (hasQ 8) 107=true by decide +kernel))
  have:=ycJ y
  have:=ydw i
  try simp only[List.length_append]
  first | omega | simp
theorem eP_len_9 (w:ByteArray)(b:ByteArray)(y:ByteArray)(i:Int)(bo:List Int)(tg:List yak)(l:yan)(q:Bool)(d:yad)(r:List yag)(g:List yac)(nu:Int)(ns:List Int)(af:ByteArray)(pr:ByteArray)(ma:ByteArray)(fr:yaq)(mx:Int)(u:Unit)(h:SndQ (9,w,b,y,i,bo,tg,l,q,d,r,g,nu,ns,af,pr,ma,fr,mx,u)):(eP (9,w,b,y,i,bo,tg,l,q,d,r,g,nu,ns,af,pr,ma,fr,mx,u)).length≤20000:=by
  rw[eP_9]
  have k1:y.size≤200:=ydk (ybe h.f107 (show inB (hasQ 9) 107=true by decide +kernel))
  have:=ycJ y
  try simp only[List.length_append]
  first | omega | simp
theorem eP_len_10 (w:ByteArray)(b:ByteArray)(y:ByteArray)(i:Int)(bo:List Int)(tg:List yak)(l:yan)(q:Bool)(d:yad)(r:List yag)(g:List yac)(nu:Int)(ns:List Int)(af:ByteArray)(pr:ByteArray)(ma:ByteArray)(fr:yaq)(mx:Int)(u:Unit)(h:SndQ (10,w,b,y,i,bo,tg,l,q,d,r,g,nu,ns,af,pr,ma,fr,mx,u)):(eP (10,w,b,y,i,bo,tg,l,q,d,r,g,nu,ns,af,pr,ma,fr,mx,u)).length≤20000:=by
  rw[eP_10]
  have k1:y.size≤200:=ydk (ybe h.f107 (show inB (hasQ 10) 107=true by decide +kernel))
  have:=ycJ y
  have:=ydw i
  have:=eF_len q
  try simp only[List.length_append]
  first | omega | simp
theorem eP_len_11 (w:ByteArray)(b:ByteArray)(y:ByteArray)(i:Int)(bo:List Int)(tg:List yak)(l:yan)(q:Bool)(d:yad)(r:List yag)(g:List yac)(nu:Int)(ns:List Int)(af:ByteArray)(pr:ByteArray)(ma:ByteArray)(fr:yaq)(mx:Int)(u:Unit)(h:SndQ (11,w,b,y,i,bo,tg,l,q,d,r,g,nu,ns,af,pr,ma,fr,mx,u)):(eP (11,w,b,y,i,bo,tg,l,q,d,r,g,nu,ns,af,pr,ma,fr,mx,u)).length≤20000:=by
  rw[eP_11]
  have k1:y.size≤200:=ydk (ybe h.f107 (show inB (hasQ 11) 107=true by decide +kernel))
  have:=ycJ y
  have:=ydw i
  have:=eLock_len l
  have:=eF_len q
  try simp only[List.length_append]
  first | omega | simp
theorem eP_len_12 (w:ByteArray)(b:ByteArray)(y:ByteArray)(i:Int)(bo:List Int)(tg:List yak)(l:yan)(q:Bool)(d:yad)(r:List yag)(g:List yac)(nu:Int)(ns:List Int)(af:ByteArray)(pr:ByteArray)(ma:ByteArray)(fr:yaq)(mx:Int)(u:Unit)(h:SndQ (12,w,b,y,i,bo,tg,l,q,d,r,g,nu,ns,af,pr,ma,fr,mx,u)):(eP (12,w,b,y,i,bo,tg,l,q,d,r,g,nu,ns,af,pr,ma,fr,mx,u)).length≤20000:=by
  rw[eP_12]
  have k1:y.size≤200:=ydk (ybe h.f107 (show inB (hasQ 12) 107=true by decide +kernel))
  have:=ycJ y
  have:=ydw i
  have:=eLock_len l
  try simp only[List.length_append]
  first | omega | simp
theorem eP_len_13 (w:ByteArray)(b:ByteArray)(y:ByteArray)(i:Int)(bo:List Int)(tg:List yak)(l:yan)(q:Bool)(d:yad)(r:List yag)(g:List yac)(nu:Int)(ns:List Int)(af:ByteArray)(pr:ByteArray)(ma:ByteArray)(fr:yaq)(mx:Int)(u:Unit)(h:SndQ (13,w,b,y,i,bo,tg,l,q,d,r,g,nu,ns,af,pr,ma,fr,mx,u)):(eP (13,w,b,y,i,bo,tg,l,q,d,r,g,nu,ns,af,pr,ma,fr,mx,u)).length≤20000:=by
  rw[eP_13]
  have k1:y.size≤200:=ydk (ybe h.f107 (show inB (hasQ 13) 107=true by decide +kernel))
  have:=ycJ y
  have:=ydw i
  have k3:tagsB tg=true:=ybe h.f116 (show inB (hasQ 13) 116=true by decide +kernel)
  have:=eTags_len k3
  try simp only[List.length_append]
  first | omega | simp
theorem eP_len_14 (w:ByteArray)(b:ByteArray)(y:ByteArray)(i:Int)(bo:List Int)(tg:List yak)(l:yan)(q:Bool)(d:yad)(r:List yag)(g:List yac)(nu:Int)(ns:List Int)(af:ByteArray)(pr:ByteArray)(ma:ByteArray)(fr:yaq)(mx:Int)(u:Unit)(h:SndQ (14,w,b,y,i,bo,tg,l,q,d,r,g,nu,ns,af,pr,ma,fr,mx,u)):(eP (14,w,b,y,i,bo,tg,l,q,d,r,g,nu,ns,af,pr,ma,fr,mx,u)).length≤20000:=by
  rw[eP_14]
  have k_pr:pr.size≤200:=yeH (ybe h.f112 (show inB (hasQ 14) 112=true by decide +kernel))
  have:=ycJ pr
  have k_ma:ma.size≤200:=yeH (ybe h.f109 (show inB (hasQ 14) 109=true by decide +kernel))
  have:=ycJ ma
  have k_af:af.size≤200:=yeH (ybe h.f97 (show inB (hasQ 14) 97=true by decide +kernel))
  have:=ycJ af
  have:=eW_len mx
  try simp only[List.length_append]
  first | omega | simp
theorem eP_len_15 (w:ByteArray)(b:ByteArray)(y:ByteArray)(i:Int)(bo:List Int)(tg:List yak)(l:yan)(q:Bool)(d:yad)(r:List yag)(g:List yac)(nu:Int)(ns:List Int)(af:ByteArray)(pr:ByteArray)(ma:ByteArray)(fr:yaq)(mx:Int)(u:Unit)(h:SndQ (15,w,b,y,i,bo,tg,l,q,d,r,g,nu,ns,af,pr,ma,fr,mx,u)):(eP (15,w,b,y,i,bo,tg,l,q,d,r,g,nu,ns,af,pr,ma,fr,mx,u)).length≤20000:=by
  rw[eP_15]
  have k_pr:pr.size≤200:=yeH (ybe h.f112 (show inB (hasQ 15) 112=true by decide +kernel))
  have:=ycJ pr
  have k6:(eqS fr.1 ⟨#[]⟩&&nameB fr.2.1)=true:=ybe h.f102 (show inB (hasQ 15) 102=true by decide +kernel)
  rw[Bool.and_eq_true]at k6
  have:=yeH k6.2
  have:=ycJ fr.2.1
  have:=ydw fr.2.2.1
  have:=eW_len mx
  try simp only[List.length_append]
  first | omega | simp
theorem eP_len_16 (w:ByteArray)(b:ByteArray)(y:ByteArray)(i:Int)(bo:List Int)(tg:List yak)(l:yan)(q:Bool)(d:yad)(r:List yag)(g:List yac)(nu:Int)(ns:List Int)(af:ByteArray)(pr:ByteArray)(ma:ByteArray)(fr:yaq)(mx:Int)(u:Unit)(h:SndQ (16,w,b,y,i,bo,tg,l,q,d,r,g,nu,ns,af,pr,ma,fr,mx,u)):(eP (16,w,b,y,i,bo,tg,l,q,d,r,g,nu,ns,af,pr,ma,fr,mx,u)).length≤20000:=by
  rw[eP_16]
  have k1:y.size≤200:=ydk (ybe h.f107 (show inB (hasQ 16) 107=true by decide +kernel))
  have:=ycJ y
  have k3:tagsB tg=true:=ybe h.f116 (show inB (hasQ 16) 116=true by decide +kernel)
  have:=eTags_len k3
  try simp only[List.length_append]
  first | omega | simp
theorem eP_len_17 (w:ByteArray)(b:ByteArray)(y:ByteArray)(i:Int)(bo:List Int)(tg:List yak)(l:yan)(q:Bool)(d:yad)(r:List yag)(g:List yac)(nu:Int)(ns:List Int)(af:ByteArray)(pr:ByteArray)(ma:ByteArray)(fr:yaq)(mx:Int)(u:Unit)(h:SndQ (17,w,b,y,i,bo,tg,l,q,d,r,g,nu,ns,af,pr,ma,fr,mx,u)):(eP (17,w,b,y,i,bo,tg,l,q,d,r,g,nu,ns,af,pr,ma,fr,mx,u)).length≤20000:=by
  rw[eP_17]
  have:=ydw i
  have:=eW_len nu
  have k2:((bo.length:Nat):Int)≤1024:=of_decide_eq_true (ybe h.f66 (show inB (hasQ 17) 66=true by decide +kernel))
  have:=ycJ (ya4 bo)
  rw[yal]at this
  try simp only[List.length_append]
  first | omega | simp
theorem eP_len_18 (w:ByteArray)(b:ByteArray)(y:ByteArray)(i:Int)(bo:List Int)(tg:List yak)(l:yan)(q:Bool)(d:yad)(r:List yag)(g:List yac)(nu:Int)(ns:List Int)(af:ByteArray)(pr:ByteArray)(ma:ByteArray)(fr:yaq)(mx:Int)(u:Unit)(h:SndQ (18,w,b,y,i,bo,tg,l,q,d,r,g,nu,ns,af,pr,ma,fr,mx,u)):(eP (18,w,b,y,i,bo,tg,l,q,d,r,g,nu,ns,af,pr,ma,fr,mx,u)).length≤20000:=by
  rw[eP_18]
  have:=ydw i
  have:=eW_len ((ns.length:Nat):Int)
  have k7:((ns.length:Nat):Int)≤16:=of_decide_eq_true (ybe h.f78 (show inB (hasQ 18) 78=true by decide +kernel))
  have:=flat_len (l:=ns) (f:=eI) (c:=10) (λx _=>eI_len x)
  try simp only[List.length_append]
  first | omega | simp
theorem eP_len_19 (w:ByteArray)(b:ByteArray)(y:ByteArray)(i:Int)(bo:List Int)(tg:List yak)(l:yan)(q:Bool)(d:yad)(r:List yag)(g:List yac)(nu:Int)(ns:List Int)(af:ByteArray)(pr:ByteArray)(ma:ByteArray)(fr:yaq)(mx:Int)(u:Unit)(h:SndQ (19,w,b,y,i,bo,tg,l,q,d,r,g,nu,ns,af,pr,ma,fr,mx,u)):(eP (19,w,b,y,i,bo,tg,l,q,d,r,g,nu,ns,af,pr,ma,fr,mx,u)).length≤20000:=by
  rw[eP_19]
  have:=ydw i
  try simp only[List.length_append]
  first | omega | simp
theorem eP_len_20 (w:ByteArray)(b:ByteArray)(y:ByteArray)(i:Int)(bo:List Int)(tg:List yak)(l:yan)(q:Bool)(d:yad)(r:List yag)(g:List yac)(nu:Int)(ns:List Int)(af:ByteArray)(pr:ByteArray)(ma:ByteArray)(fr:yaq)(mx:Int)(u:Unit)(h:SndQ (20,w,b,y,i,bo,tg,l,q,d,r,g,nu,ns,af,pr,ma,fr,mx,u)):(eP (20,w,b,y,i,bo,tg,l,q,d,r,g,nu,ns,af,pr,ma,fr,mx,u)).length≤20000:=by
  rw[eP_20]
  have k1:y.size≤200:=ydk (ybe h.f107 (show inB (hasQ 20) 107=true by decide +kernel))
  have:=ycJ y
  have k6:(ybf fr.1&&(keyB fr.2.1&&decide (fr.2.2.1≥1)))=true:=ybe h.f102 (show inB (hasQ 20) 102=true by decide +kernel)
  rw[Bool.and_eq_true,Bool.and_eq_true]at k6
  have:=bucketB_len k6.1
  have:=ydk k6.2.1
  have:=ycJ fr.1
  have:=ycJ fr.2.1
  have:=ydw fr.2.2.1
  try simp only[List.length_append]
  first | omega | simp
theorem eP_len_21 (w:ByteArray)(b:ByteArray)(y:ByteArray)(i:Int)(bo:List Int)(tg:List yak)(l:yan)(q:Bool)(d:yad)(r:List yag)(g:List yac)(nu:Int)(ns:List Int)(af:ByteArray)(pr:ByteArray)(ma:ByteArray)(fr:yaq)(mx:Int)(u:Unit)(h:SndQ (21,w,b,y,i,bo,tg,l,q,d,r,g,nu,ns,af,pr,ma,fr,mx,u)):(eP (21,w,b,y,i,bo,tg,l,q,d,r,g,nu,ns,af,pr,ma,fr,mx,u)).length≤20000:=by
  rw[eP_21]
  try simp only[List.length_append]
  first | omega | simp
theorem eP_len_22 (w:ByteArray)(b:ByteArray)(y:ByteArray)(i:Int)(bo:List Int)(tg:List yak)(l:yan)(q:Bool)(d:yad)(r:List yag)(g:List yac)(nu:Int)(ns:List Int)(af:ByteArray)(pr:ByteArray)(ma:ByteArray)(fr:yaq)(mx:Int)(u:Unit)(h:SndQ (22,w,b,y,i,bo,tg,l,q,d,r,g,nu,ns,af,pr,ma,fr,mx,u)):(eP (22,w,b,y,i,bo,tg,l,q,d,r,g,nu,ns,af,pr,ma,fr,mx,u)).length≤20000:=by
  rw[eP_22]
  try simp only[List.length_append]
  first | omega | simp
theorem eP_len {e:Q}(hs:SndQ e):(eP e).length≤20000:=by
  have hk:=hs.kind
  obtain⟨k,w,b,y,i,bo,tg,l,q,d,r,g,nu,ns,af,pr,ma,fr,mx,u⟩:=e
  have:k=1∨k=2∨k=3∨k=4∨k=5∨k=6∨k=7∨k=8∨k=9∨k=10∨k=11∨k=12∨k=13∨k=14∨k=15∨k=16∨k=17∨k=18∨k=19∨k=20∨k=21∨k=22:=by
    obtain⟨h1,h2⟩:=hk
    dsimp only at h1 h2
    omega
  rcases this with h | h | h | h | h | h | h | h | h | h | h | h | h | h | h | h | h | h | h | h | h | h<;>subst h
  · exact eP_len_1 w b y i bo tg l q d r g nu ns af pr ma fr mx u hs
  · exact eP_len_2 w b y i bo tg l q d r g nu ns af pr ma fr mx u hs
  · exact eP_len_3 w b y i bo tg l q d r g nu ns af pr ma fr mx u hs
  · exact eP_len_4 w b y i bo tg l q d r g nu ns af pr ma fr mx u hs
  · exact eP_len_5 w b y i bo tg l q d r g nu ns af pr ma fr mx u hs
  · exact eP_len_6 w b y i bo tg l q d r g nu ns af pr ma fr mx u hs
  · exact eP_len_7 w b y i bo tg l q d r g nu ns af pr ma fr mx u hs
  · exact eP_len_8 w b y i bo tg l q d r g nu ns af pr ma fr mx u hs
  · exact eP_len_9 w b y i bo tg l q d r g nu ns af pr ma fr mx u hs
  · exact eP_len_10 w b y i bo tg l q d r g nu ns af pr ma fr mx u hs
  · exact eP_len_11 w b y i bo tg l q d r g nu ns af pr ma fr mx u hs
  · exact eP_len_12 w b y i bo tg l q d r g nu ns af pr ma fr mx u hs
  · exact eP_len_13 w b y i bo tg l q d r g nu ns af pr ma fr mx u hs
  · exact eP_len_14 w b y i bo tg l q d r g nu ns af pr ma fr mx u hs
  · exact eP_len_15 w b y i bo tg l q d r g nu ns af pr ma fr mx u hs
  · exact eP_len_16 w b y i bo tg l q d r g nu ns af pr ma fr mx u hs
  · exact eP_len_17 w b y i bo tg l q d r g nu ns af pr ma fr mx u hs
  · exact eP_len_18 w b y i bo tg l q d r g nu ns af pr ma fr mx u hs
  · exact eP_len_19 w b y i bo tg l q d r g nu ns af pr ma fr mx u hs
  · exact eP_len_20 w b y i bo tg l q d r g nu ns af pr ma fr mx u hs
  · exact eP_len_21 w b y i bo tg l q d r g nu ns af pr ma fr mx u hs
  · exact eP_len_22 w b y i bo tg l q d r g nu ns af pr ma fr mx u hs
theorem wf {n:Nat}(hn:300≤n)(hn2:n≤536870912)(w0:List Int)(z:Unit){e:Q}(hs:SndQ e)(he:QB n e)(hr:QR e)(hh:w0.length+(eP e).length≤70368744177664):yai.f n (w0,z) e=some ((w0++eP e,()),()):=by
  have hk:=hs.kind
  obtain⟨k,w,b,y,i,bo,tg,l,q,d,r,g,nu,ns,af,pr,ma,fr,mx,u⟩:=e
  have:k=1∨k=2∨k=3∨k=4∨k=5∨k=6∨k=7∨k=8∨k=9∨k=10∨k=11∨k=12∨k=13∨k=14∨k=15∨k=16∨k=17∨k=18∨k=19∨k=20∨k=21∨k=22:=by
    obtain⟨h1,h2⟩:=hk
    dsimp only at h1 h2
    omega
  rcases this with h | h | h | h | h | h | h | h | h | h | h | h | h | h | h | h | h | h | h | h | h | h<;>subst h
  · exact wf_1 hn hn2 w0 z w b y i bo tg l q d r g nu ns af pr ma fr mx u he hr hh
  · exact wf_2 hn hn2 w0 z w b y i bo tg l q d r g nu ns af pr ma fr mx u he hr hh
  · exact wf_3 hn hn2 w0 z w b y i bo tg l q d r g nu ns af pr ma fr mx u he hr hh
  · exact wf_4 hn hn2 w0 z w b y i bo tg l q d r g nu ns af pr ma fr mx u he hr hh
  · exact wf_5 hn hn2 w0 z w b y i bo tg l q d r g nu ns af pr ma fr mx u he hr hh
  · exact wf_6 hn hn2 w0 z w b y i bo tg l q d r g nu ns af pr ma fr mx u he hr hh
  · exact wf_7 hn hn2 w0 z w b y i bo tg l q d r g nu ns af pr ma fr mx u he hr hh
  · exact wf_8 hn hn2 w0 z w b y i bo tg l q d r g nu ns af pr ma fr mx u he hr hh
  · exact wf_9 hn hn2 w0 z w b y i bo tg l q d r g nu ns af pr ma fr mx u he hr hh
  · exact wf_10 hn hn2 w0 z w b y i bo tg l q d r g nu ns af pr ma fr mx u he hr hh
  · exact wf_11 hn hn2 w0 z w b y i bo tg l q d r g nu ns af pr ma fr mx u he hr hh
  · exact wf_12 hn hn2 w0 z w b y i bo tg l q d r g nu ns af pr ma fr mx u he hr hh
  · exact wf_13 hn hn2 w0 z w b y i bo tg l q d r g nu ns af pr ma fr mx u he hr hh
  · exact wf_14 hn hn2 w0 z w b y i bo tg l q d r g nu ns af pr ma fr mx u he hr hh
  · exact wf_15 hn hn2 w0 z w b y i bo tg l q d r g nu ns af pr ma fr mx u he hr hh
  · exact wf_16 hn hn2 w0 z w b y i bo tg l q d r g nu ns af pr ma fr mx u he hr hh
  · exact wf_17 hn hn2 w0 z w b y i bo tg l q d r g nu ns af pr ma fr mx u he hr hh
  · exact wf_18 hn hn2 w0 z w b y i bo tg l q d r g nu ns af pr ma fr mx u he hr hh
  · exact wf_19 hn hn2 w0 z w b y i bo tg l q d r g nu ns af pr ma fr mx u he hr hh
  · exact wf_20 hn hn2 w0 z w b y i bo tg l q d r g nu ns af pr ma fr mx u he hr hh
  · exact wf_21 hn hn2 w0 z w b y i bo tg l q d r g nu ns af pr ma fr mx u he hr hh
  · exact wf_22 hn hn2 w0 z w b y i bo tg l q d r g nu ns af pr ma fr mx u he hr hh
theorem rf {n:Nat}(hn:300≤n)(hn2:n≤536870912){e:Q}(hs:SndQ e)(he:QB n e)(hr:QR e)(hh:(eP e).length≤7036874417766):yar.f n e=some (ya4 (eP e),()):=by
  have hk:=hs.kind
  obtain⟨k,w,b,y,i,bo,tg,l,q,d,r,g,nu,ns,af,pr,ma,fr,mx,u⟩:=e
  have:k=1∨k=2∨k=3∨k=4∨k=5∨k=6∨k=7∨k=8∨k=9∨k=10∨k=11∨k=12∨k=13∨k=14∨k=15∨k=16∨k=17∨k=18∨k=19∨k=20∨k=21∨k=22:=by
    obtain⟨h1,h2⟩:=hk
    dsimp only at h1 h2
    omega
  rcases this with h | h | h | h | h | h | h | h | h | h | h | h | h | h | h | h | h | h | h | h | h | h<;>subst h
  · exact rf_1 hn hn2 w b y i bo tg l q d r g nu ns af pr ma fr mx u he hr hh
  · exact rf_2 hn hn2 w b y i bo tg l q d r g nu ns af pr ma fr mx u he hr hh
  · exact rf_3 hn hn2 w b y i bo tg l q d r g nu ns af pr ma fr mx u he hr hh
  · exact rf_4 hn hn2 w b y i bo tg l q d r g nu ns af pr ma fr mx u he hr hh
  · exact rf_5 hn hn2 w b y i bo tg l q d r g nu ns af pr ma fr mx u he hr hh
  · exact rf_6 hn hn2 w b y i bo tg l q d r g nu ns af pr ma fr mx u he hr hh
  · exact rf_7 hn hn2 w b y i bo tg l q d r g nu ns af pr ma fr mx u he hr hh
  · exact rf_8 hn hn2 w b y i bo tg l q d r g nu ns af pr ma fr mx u he hr hh
  · exact rf_9 hn hn2 w b y i bo tg l q d r g nu ns af pr ma fr mx u he hr hh
  · exact rf_10 hn hn2 w b y i bo tg l q d r g nu ns af pr ma fr mx u he hr hh
  · exact rf_11 hn hn2 w b y i bo tg l q d r g nu ns af pr ma fr mx u he hr hh
  · exact rf_12 hn hn2 w b y i bo tg l q d r g nu ns af pr ma fr mx u he hr hh
  · exact rf_13 hn hn2 w b y i bo tg l q d r g nu ns af pr ma fr mx u he hr hh
  · exact rf_14 hn hn2 w b y i bo tg l q d r g nu ns af pr ma fr mx u he hr hh
  · exact rf_15 hn hn2 w b y i bo tg l q d r g nu ns af pr ma fr mx u he hr hh
  · exact rf_16 hn hn2 w b y i bo tg l q d r g nu ns af pr ma fr mx u he hr hh
  · exact rf_17 hn hn2 w b y i bo tg l q d r g nu ns af pr ma fr mx u he hr hh
  · exact rf_18 hn hn2 w b y i bo tg l q d r g nu ns af pr ma fr mx u he hr hh
  · exact rf_19 hn hn2 w b y i bo tg l q d r g nu ns af pr ma fr mx u he hr hh
  · exact rf_20 hn hn2 w b y i bo tg l q d r g nu ns af pr ma fr mx u he hr hh
  · exact rf_21 hn hn2 w b y i bo tg l q d r g nu ns af pr ma fr mx u he hr hh
  · exact rf_22 hn hn2 w b y i bo tg l q d r g nu ns af pr ma fr mx u he hr hh
def encQ (e:Q):List Int:=eW e.1++(eT e.2.1++((if 21≤e.1 then [] else eT e.2.2.1)++eP e))
def askS (e:Q):List Int×Int:=if goodQ e then (encQ e,0) else ([],2)
theorem encQ_len {e:Q}(hs:SndQ e):(encQ e).length≤20300:=by
  have h1:=eP_len hs
  have h2:=eW_len e.1
  have h3:=ycJ e.2.1
  have h4:=hs.w
  have hb:=hs.b
  unfold encQ
  by_cases h21:21≤e.1
  · simp only[List.length_append,if_pos h21,List.length_nil];omega
  · rw[if_neg h21]at hb
    have:=bucketB_len hb
    have:=ycJ e.2.2.1
    simp only[List.length_append,if_neg h21];omega
theorem wire_Ask {n:Nat} (hn:300≤n) (hn2:n≤536870912) {e:Q} (he:QB n e) (hr:QR e):ybM.f n e=some ((askS e).1,(askS e).2,()):=by
  rw[ybM.e0,acts_Good hn hn2 he,yaf]
  unfold askS
  cases hg:goodQ e
  · rfl
  · have hs:=sndQ_of hg
    have hk:=hs.kind
    have hl:=encQ_len hs
    unfold encQ at hl
    simp only[List.length_append]at hl
    rw[Bool.not_true,yaA,if_pos rfl,ybY.e0,yez.e0,yaf,yaf]
    try dsimp only
    rw[wW hn [] () (by rw[List.length_nil];omega),yaf]
    try dsimp only
    rw[wText hn _ () (by simp only[List.length_append,List.length_nil];omega),yaf]
    try dsimp only
    unfold encQ
    have key:∀ L:List Int,L.length+(eP e).length≤70368744→∀ z,ybM.J2 n (e,z,(L,()),())=some (L++eP e,0,()):=by
      intro L hL z
      rw[ybM.e2]
      try dsimp only
      rw[wf hn hn2 L () hs he hr (by omega),yaf]
      try dsimp only
      rw[wOut () (by rw[List.length_append];omega),yaf]
    by_cases h21:21≤e.1
    · rw[if_pos h21]at hl ⊢
      have h5:ybM.J1 n (false,e,(((),()),()),([]++eW e.1++eT e.2.1,()),())=some (eW e.1++(eT e.2.1++([]++eP e)),0,()):=by
        rw[ybM.e1,yaA]
        try dsimp only
        rw[key _ (by simp only[List.length_append,List.length_nil];omega)]
        simp only[List.nil_append,List.append_assoc]
      by_cases h0:e.1=21
      · rw[yaB,show (e.1 != 21)=false by rw[h0];rfl,yaA];exact h5
      · rw[yaB,show (e.1 != 21)=true by rw[bne,beq_eq_false_iff_ne.2 h0];rfl,yaR,yaB,show (e.1 != 22)=false by rw[show e.1=22 by omega];rfl];exact h5
    · rw[if_neg h21]at hl ⊢
      rw[yaB,show (e.1 != 21)=true by rw[bne,beq_eq_false_iff_ne.2 (by omega)];rfl,yaR,yaB,show (e.1 != 22)=true by rw[bne,beq_eq_false_iff_ne.2 (by omega)];rfl,ybM.e1,yaR]
      try dsimp only
      rw[wText hn _ () (by simp only[List.length_append,List.length_nil];omega),yaf]
      try dsimp only
      rw[key _ (by simp only[List.length_append,List.length_nil];omega)]
      simp only[List.nil_append,List.append_assoc]
theorem ref26_Ask {n:Nat}(hn:300≤n)(hn2:n≤536870912){e:Q}(he:QB n e)(hr:QR e):ycR.f n e=some (ya4 (askS e).1,(askS e).2,()):=by
  rw[ycR.e0,ref24_Good hn hn2 he,yaf]
  unfold askS
  cases hg:goodQ e
  · rfl
  · have hs:=sndQ_of hg
    have hl:=encQ_len hs
    unfold encQ at hl
    simp only[List.length_append]at hl
    rw[Bool.not_true,yaA,if_pos rfl,qNum hn,yaf,pText hn (by omega),yaf]
    try dsimp only
    rw[yal,yal,yaP (by omega),← yaE,yaB]
    unfold encQ
    have key:∀ L:List Int,L.length+(eP e).length≤70368744→ycR.J1 n (ya4 L,e,())=some (ya4 (L++eP e),0,()):=by
      intro L hL
      rw[ycR.e1,rf hn hn2 hs he hr (by omega),yaf]
      try dsimp only
      rw[yal,yal,yaP (by omega),← yaE]
    by_cases h21:21≤e.1
    · rw[if_pos h21]at hl ⊢
      rw[decide_eq_false (by omega),yaA,key _ (by simp only[List.length_append];omega)]
      simp only[List.nil_append,List.append_assoc]
    · rw[if_neg h21]at hl ⊢
      rw[decide_eq_true (by omega),yaR,pText hn (by omega),yaf]
      try dsimp only
      rw[yal,yal,yaP (by simp only[List.length_append];omega),← yaE,key _ (by simp only[List.length_append];omega)]
      simp only[List.append_assoc]
end Go.Proofs.YtcpkhpboemfglaaGreatDoor

