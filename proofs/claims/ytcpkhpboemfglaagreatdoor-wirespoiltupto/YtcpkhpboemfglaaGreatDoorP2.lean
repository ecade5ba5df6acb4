/-
  The plain laws.
-/
import Derived.Test.YtcpkhpboemfglaaGreatDoorP1
import Derived.Test.YtcpkhpboemfglaaGreatDoorF1
import Derived.Test.YtcpkhpboemfglaaGreatDoorF0
import Derived.Test.YtcpkhpboemfglaaGreatDoorP0
set_option linter.unusedVariables false
set_option linter.unusedSimpArgs false
namespace Go.Proofs.YtcpkhpboemfglaaGreatDoor
open Go Go.Va Go.Proofs
theorem yeU {a b:yaq}(h:eqD ya1 a b=true):a=b:=by
  have h:((a.1==b.1)&&((a.2.1==b.2.1)&&(decide (a.2.2.1=b.2.2.1)&&true)))=true:=h
  simp only[Bool.and_eq_true,ba_beq,decide_eq_true_iff,and_true]at h
  obtain⟨h1,h2,h3⟩:=h
  obtain⟨a1,a2,a3,a4⟩:=a
  obtain⟨b1,b2,b3,b4⟩:=b
  dsimp only at h1 h2 h3
  rw[h1,h2,h3]
theorem yd4 {q:Bool}(h:(!q)=true):q=false:=by cases q;rfl;exact nomatch h
abbrev hdQ (k:Int)(w b:ByteArray):Q:=(k,w,b,(⟨#[]⟩:ByteArray),0,[],[],lockZ,false,(0,(0,())),[],[],0,[],(⟨#[]⟩:ByteArray),(⟨#[]⟩:ByteArray),(⟨#[]⟩:ByteArray),spotZ,0,())
def bdBody (n:Nat)(l:List Int):Prop:=l.length<n∧BY l
def okBody (l:List Int):Prop:=l.length≤16384∧BY l
def okNums (l:List Int):Prop:=l.length≤16∧∀ x∈l,I64 x
def eNums (l:List Int):List Int:=eW ((l.length:Nat):Int)++l.flatMap eI
def bdQ (n:Nat)(e:Q):Prop:=QB n e∧QR e∧BY e.2.2.2.2.2.1
theorem rBody {n:Nat}(hn:300≤n)(hn2:n≤536870912):Rd n (α:=List Int) (ycs.f n) (λbo=>eT (ya4 bo)) okBody (bdBody n) where
  any b e hb:=by
    obtain⟨x,b',e',h1,h2,h3⟩:=(rText hn hn2).any b e hb
    rw[ycs.e0,h1,yaf,yaB]
    try dsimp only
    cases eqS x ⟨#[]⟩
    · rw[Bool.not_false,yaR]
      exact⟨_,_,_,rfl,h2,by rw[← size_of];exact h3,λy hy=>ofBytes_range hy⟩
    · rw[Bool.not_true,yaA]
      exact⟨_,_,_,rfl,h2,by change 0<n;omega,yek⟩
  enc x rest hx hb:=by
    rw[ycs.e0,(rText hn hn2).enc _ _ (by rw[yal];exact hx.1) hb,yaf,yaB]
    try dsimp only
    cases h:eqS (ya4 x) ⟨#[]⟩
    · rw[Bool.not_false,yaR,ofBytes_bytesOf hx.2]
    · rw[size0,yal,decide_eq_true_iff]at h
      rw[Bool.not_true,yaA,List.eq_nil_of_length_eq_zero h]
theorem rNums {n:Nat} (hn:300≤n) (hn2:n≤536870912):Rd n (α:=List Int) (ybg.f n) eNums okNums okNums where
  any b e hb:=by
    obtain⟨c,b1,e1,h1,hb1,h2,h3⟩:=(rCount hn hn2 (most:=16) (by omega)).any b e hb
    obtain⟨y,rfl⟩:=Int.eq_ofNat_of_zero_le h2
    rw[ybg.e0,h1,yaf]
    try dsimp only
    obtain⟨out',b',e',h4,h5,h6,h7⟩:=rd_any (rInt hn hn2) y (λm out k r=>ybg.J1 n m (out,(y:Int),k,(((),()),()),r,())) (λout r=>some (out,r,()))
      (λm out k r x r' hk ho hF=>by
        try dsimp only
        rw[ybg.e1,yaB,decide_eq_true (by omega),yaR,hF,yaf,yaP (by omega),ybU k (by omega)])
      (λm out r ho=>by
        try dsimp only
        rw[ybg.e1,yaB,decide_eq_false (by omega),yaA,ybg.e2]) n 0 [] b1 e1 (by omega) (by omega) rfl (by intro x hx;exact nomatch hx) hb1
    try dsimp only at h4
    rw[show ((0:Nat):Int)=0 from rfl]at h4
    rw[h4]
    exact⟨_,_,_,rfl,h5,by omega,h7⟩
  enc l rest hl hb:=by
    unfold eNums at hb ⊢
    rw[List.append_assoc]at hb ⊢
    have hlen:=hl.1
    rw[ybg.e0,(rCount hn hn2 (most:=16) (by omega)).enc _ _ ⟨by omega,by omega⟩ hb,yaf]
    try dsimp only
    have h4:=rd_enc (rInt hn hn2) l.length (λm out k r=>ybg.J1 n m (out,((l.length:Nat):Int),k,(((),()),()),r,())) (λout r=>some (out,r,()))
      (λm out k r x r' hk ho hF=>by
        try dsimp only
        rw[ybg.e1,yaB,decide_eq_true (by omega),yaR,hF,yaf,yaP (by omega),ybU k (by omega)])
      (λm out r ho=>by
        try dsimp only
        rw[ybg.e1,yaB,decide_eq_false (by omega),yaA,ybg.e2]) rest n l 0 [] (by omega) (by omega) rfl hl.2 (ybD hb)
    try dsimp only at h4
    rw[show ((0:Nat):Int)=0 from rfl]at h4
    rw[h4,List.nil_append]
theorem mkQ {n:Nat}{k:Int}{w b y:ByteArray}{i:Int}{bo:List Int}{tg:List yak}{l:yan}{q:Bool}{d:yad}{r:List yag}{g:List yac}{nu:Int}{ns:List Int}{af pr ma:ByteArray}{fr:yaq}{mx:Int}{u:Unit}
    (hw:w.size<n) (hb:b.size<n) (hy:y.size<n) (hi:U64 i) (hbo:bdBody n bo) (ht:TsB n tg) (hl:bdLock l) (hr:RusB n r) (hg:GrsB n g) (hns:okNums ns) (haf:af.size<n) (hpr:pr.size<n) (hma:ma.size<n) (hf1:fr.1.size<n) (hf2:fr.2.1.size<n) (hf3:U64 fr.2.2.1) (h3:300≤n) :
    bdQ n (k,w,b,y,i,bo,tg,l,q,d,r,g,nu,ns,af,pr,ma,fr,mx,u):=
  ⟨⟨hw,hb,hy,hi.1,hbo.1,ht,hr,hg,Nat.lt_of_le_of_lt hns.1 (by omega),haf,hpr,hma,hf1,hf2,hf3.1⟩,⟨hi,hl,hf3,hns.2⟩,hbo.2⟩
theorem qJ_any_1 {n:Nat}(hn:300≤n)(hn2:n≤536870912){w b:ByteArray}(hw:w.size<n)(hbk:b.size<n)(b0:List Int)(e0:Int)(hb0:BB n b0) :
    ∃ (x:Q) (b':List Int) (e':Int),yaa.f n (b0,e0,()) (hdQ 1 w b)=some ((b',e',()),x,())∧BB n b'∧bdQ n x:=by
  have h0:0<n:=by omega
  rw[yaa.e0]
  simp only[yaa.e1,yaa.e2,yaa.e3,yav.e0,yaD.e0,yam.e0,yam.e1,yaZ,Int.reduceBEq,bIf_t,bIf_f,yaU,bnd_s]
  obtain⟨x1,b1,e1,h1,hb1,d1⟩:=(rDef hn hn2).any b0 e0 hb0
  rw[h1]
  try simp only[yaU,bnd_s,bIf_t,bIf_f,Int.reduceBEq]
  exact⟨_,_,_,rfl,hb1,mkQ hw hbk h0 U64_0 ⟨h0,yek⟩ ⟨h0,by intro t ht;exact nomatch ht⟩ I64_0 ⟨h0,by intro t ht;exact nomatch ht⟩ ⟨h0,by intro t ht;exact nomatch ht⟩ ⟨Nat.zero_le 16,by intro t ht;exact nomatch ht⟩ h0 h0 h0 h0 h0 U64_0 hn⟩
theorem qJ_any_2 {n:Nat}(hn:300≤n)(hn2:n≤536870912){w b:ByteArray}(hw:w.size<n)(hbk:b.size<n)(b0:List Int)(e0:Int)(hb0:BB n b0) :
    ∃ (x:Q) (b':List Int) (e':Int),yaa.f n (b0,e0,()) (hdQ 2 w b)=some ((b',e',()),x,())∧BB n b'∧bdQ n x:=by
  have h0:0<n:=by omega
  rw[yaa.e0]
  simp only[yaa.e1,yaa.e2,yaa.e3,yav.e0,yaD.e0,yam.e0,yam.e1,yaZ,Int.reduceBEq,bIf_t,bIf_f,yaU,bnd_s]
  exact⟨_,_,_,rfl,hb0,mkQ hw hbk h0 U64_0 ⟨h0,yek⟩ ⟨h0,by intro t ht;exact nomatch ht⟩ I64_0 ⟨h0,by intro t ht;exact nomatch ht⟩ ⟨h0,by intro t ht;exact nomatch ht⟩ ⟨Nat.zero_le 16,by intro t ht;exact nomatch ht⟩ h0 h0 h0 h0 h0 U64_0 hn⟩
theorem qJ_any_3 {n:Nat}(hn:300≤n)(hn2:n≤536870912){w b:ByteArray}(hw:w.size<n)(hbk:b.size<n)(b0:List Int)(e0:Int)(hb0:BB n b0) :
    ∃ (x:Q) (b':List Int) (e':Int),yaa.f n (b0,e0,()) (hdQ 3 w b)=some ((b',e',()),x,())∧BB n b'∧bdQ n x:=by
  have h0:0<n:=by omega
  rw[yaa.e0]
  simp only[yaa.e1,yaa.e2,yaa.e3,yav.e0,yaD.e0,yam.e0,yam.e1,yaZ,Int.reduceBEq,bIf_t,bIf_f,yaU,bnd_s]
  obtain⟨x1,b1,e1,h1,hb1,d1⟩:=(rDef hn hn2).any b0 e0 hb0
  rw[h1]
  try simp only[yaU,bnd_s,bIf_t,bIf_f,Int.reduceBEq]
  exact⟨_,_,_,rfl,hb1,mkQ hw hbk h0 U64_0 ⟨h0,yek⟩ ⟨h0,by intro t ht;exact nomatch ht⟩ I64_0 ⟨h0,by intro t ht;exact nomatch ht⟩ ⟨h0,by intro t ht;exact nomatch ht⟩ ⟨Nat.zero_le 16,by intro t ht;exact nomatch ht⟩ h0 h0 h0 h0 h0 U64_0 hn⟩
theorem qJ_any_4 {n:Nat}(hn:300≤n)(hn2:n≤536870912){w b:ByteArray}(hw:w.size<n)(hbk:b.size<n)(b0:List Int)(e0:Int)(hb0:BB n b0) :
    ∃ (x:Q) (b':List Int) (e':Int),yaa.f n (b0,e0,()) (hdQ 4 w b)=some ((b',e',()),x,())∧BB n b'∧bdQ n x:=by
  have h0:0<n:=by omega
  rw[yaa.e0]
  simp only[yaa.e1,yaa.e2,yaa.e3,yav.e0,yaD.e0,yam.e0,yam.e1,yaZ,Int.reduceBEq,bIf_t,bIf_f,yaU,bnd_s]
  obtain⟨x1,b1,e1,h1,hb1,d1⟩:=(rRules hn hn2).any b0 e0 hb0
  rw[h1]
  try simp only[yaU,bnd_s,bIf_t,bIf_f,Int.reduceBEq]
  exact⟨_,_,_,rfl,hb1,mkQ hw hbk h0 U64_0 ⟨h0,yek⟩ ⟨h0,by intro t ht;exact nomatch ht⟩ I64_0 d1 ⟨h0,by intro t ht;exact nomatch ht⟩ ⟨Nat.zero_le 16,by intro t ht;exact nomatch ht⟩ h0 h0 h0 h0 h0 U64_0 hn⟩
theorem qJ_any_5 {n:Nat}(hn:300≤n)(hn2:n≤536870912){w b:ByteArray}(hw:w.size<n)(hbk:b.size<n)(b0:List Int)(e0:Int)(hb0:BB n b0) :
    ∃ (x:Q) (b':List Int) (e':Int),yaa.f n (b0,e0,()) (hdQ 5 w b)=some ((b',e',()),x,())∧BB n b'∧bdQ n x:=by
  have h0:0<n:=by omega
  rw[yaa.e0]
  simp only[yaa.e1,yaa.e2,yaa.e3,yav.e0,yaD.e0,yam.e0,yam.e1,yaZ,Int.reduceBEq,bIf_t,bIf_f,yaU,bnd_s]
  obtain⟨x1,b1,e1,h1,hb1,d1⟩:=(rGrants hn hn2).any b0 e0 hb0
  rw[h1]
  try simp only[yaU,bnd_s,bIf_t,bIf_f,Int.reduceBEq]
  exact⟨_,_,_,rfl,hb1,mkQ hw hbk h0 U64_0 ⟨h0,yek⟩ ⟨h0,by intro t ht;exact nomatch ht⟩ I64_0 ⟨h0,by intro t ht;exact nomatch ht⟩ d1 ⟨Nat.zero_le 16,by intro t ht;exact nomatch ht⟩ h0 h0 h0 h0 h0 U64_0 hn⟩
theorem qJ_any_6 {n:Nat}(hn:300≤n)(hn2:n≤536870912){w b:ByteArray}(hw:w.size<n)(hbk:b.size<n)(b0:List Int)(e0:Int)(hb0:BB n b0) :
    ∃ (x:Q) (b':List Int) (e':Int),yaa.f n (b0,e0,()) (hdQ 6 w b)=some ((b',e',()),x,())∧BB n b'∧bdQ n x:=by
  have h0:0<n:=by omega
  rw[yaa.e0]
  simp only[yaa.e1,yaa.e2,yaa.e3,yav.e0,yaD.e0,yam.e0,yam.e1,yaZ,Int.reduceBEq,bIf_t,bIf_f,yaU,bnd_s]
  obtain⟨x1,b1,e1,h1,hb1,d1⟩:=(rText hn hn2).any b0 e0 hb0
  rw[h1]
  try simp only[yaU,bnd_s,bIf_t,bIf_f,Int.reduceBEq]
  obtain⟨x2,b2,e2,h2,hb2,d2⟩:=(rBody hn hn2).any b1 e1 hb1
  rw[h2]
  try simp only[yaU,bnd_s,bIf_t,bIf_f,Int.reduceBEq]
  obtain⟨x3,b3,e3,h3,hb3,d3⟩:=(rTags hn hn2).any b2 e2 hb2
  rw[h3]
  try simp only[yaU,bnd_s,bIf_t,bIf_f,Int.reduceBEq]
  obtain⟨x4,b4,e4,h4,hb4,d4⟩:=(rLock hn hn2).any b3 e3 hb3
  rw[h4]
  try simp only[yaU,bnd_s,bIf_t,bIf_f,Int.reduceBEq]
  exact⟨_,_,_,rfl,hb4,mkQ hw hbk d1 U64_0 d2 d3 d4 ⟨h0,by intro t ht;exact nomatch ht⟩ ⟨h0,by intro t ht;exact nomatch ht⟩ ⟨Nat.zero_le 16,by intro t ht;exact nomatch ht⟩ h0 h0 h0 h0 h0 U64_0 hn⟩
theorem qJ_any_7 {n:Nat}(hn:300≤n)(hn2:n≤536870912){w b:ByteArray}(hw:w.size<n)(hbk:b.size<n)(b0:List Int)(e0:Int)(hb0:BB n b0) :
    ∃ (x:Q) (b':List Int) (e':Int),yaa.f n (b0,e0,()) (hdQ 7 w b)=some ((b',e',()),x,())∧BB n b'∧bdQ n x:=by
  have h0:0<n:=by omega
  rw[yaa.e0]
  simp only[yaa.e1,yaa.e2,yaa.e3,yav.e0,yaD.e0,yam.e0,yam.e1,yaZ,Int.reduceBEq,bIf_t,bIf_f,yaU,bnd_s]
  obtain⟨x1,b1,e1,h1,hb1,d1⟩:=(rText hn hn2).any b0 e0 hb0
  rw[h1]
  try simp only[yaU,bnd_s,bIf_t,bIf_f,Int.reduceBEq]
  obtain⟨x2,b2,e2,h2,hb2,d2⟩:=(rNum hn hn2).any b1 e1 hb1
  rw[h2]
  try simp only[yaU,bnd_s,bIf_t,bIf_f,Int.reduceBEq]
  exact⟨_,_,_,rfl,hb2,mkQ hw hbk d1 d2 ⟨h0,yek⟩ ⟨h0,by intro t ht;exact nomatch ht⟩ I64_0 ⟨h0,by intro t ht;exact nomatch ht⟩ ⟨h0,by intro t ht;exact nomatch ht⟩ ⟨Nat.zero_le 16,by intro t ht;exact nomatch ht⟩ h0 h0 h0 h0 h0 U64_0 hn⟩
theorem qJ_any_8 {n:Nat}(hn:300≤n)(hn2:n≤536870912){w b:ByteArray}(hw:w.size<n)(hbk:b.size<n)(b0:List Int)(e0:Int)(hb0:BB n b0) :
    ∃ (x:Q) (b':List Int) (e':Int),yaa.f n (b0,e0,()) (hdQ 8 w b)=some ((b',e',()),x,())∧BB n b'∧bdQ n x:=by
  have h0:0<n:=by omega
  rw[yaa.e0]
  simp only[yaa.e1,yaa.e2,yaa.e3,yav.e0,yaD.e0,yam.e0,yam.e1,yaZ,Int.reduceBEq,bIf_t,bIf_f,yaU,bnd_s]
  obtain⟨x1,b1,e1,h1,hb1,d1⟩:=(rText hn hn2).any b0 e0 hb0
  rw[h1]
  try simp only[yaU,bnd_s,bIf_t,bIf_f,Int.reduceBEq]
  obtain⟨x2,b2,e2,h2,hb2,d2⟩:=(rNum hn hn2).any b1 e1 hb1
  rw[h2]
  try simp only[yaU,bnd_s,bIf_t,bIf_f,Int.reduceBEq]
  exact⟨_,_,_,rfl,hb2,mkQ hw hbk d1 d2 ⟨h0,yek⟩ ⟨h0,by intro t ht;exact nomatch ht⟩ I64_0 ⟨h0,by intro t ht;exact nomatch ht⟩ ⟨h0,by intro t ht;exact nomatch ht⟩ ⟨Nat.zero_le 16,by intro t ht;exact nomatch ht⟩ h0 h0 h0 h0 h0 U64_0 hn⟩
theorem qJ_any_9 {n:Nat}(hn:300≤n)(hn2:n≤536870912){w b:ByteArray}(hw:w.size<n)(hbk:b.size<n)(b0:List Int)(e0:Int)(hb0:BB n b0) :
    ∃ (x:Q) (b':List Int) (e':Int),yaa.f n (b0,e0,()) (hdQ 9 w b)=some ((b',e',()),x,())∧BB n b'∧bdQ n x:=by
  have h0:0<n:=by omega
  rw[yaa.e0]
  simp only[yaa.e1,yaa.e2,yaa.e3,yav.e0,yaD.e0,yam.e0,yam.e1,yaZ,Int.reduceBEq,bIf_t,bIf_f,yaU,bnd_s]
  obtain⟨x1,b1,e1,h1,hb1,d1⟩:=(rText hn hn2).any b0 e0 hb0
  rw[h1]
  try simp only[yaU,bnd_s,bIf_t,bIf_f,Int.reduceBEq]
  exact⟨_,_,_,rfl,hb1,mkQ hw hbk d1 U64_0 ⟨h0,yek⟩ ⟨h0,by intro t ht;exact nomatch ht⟩ I64_0 ⟨h0,by intro t ht;exact nomatch ht⟩ ⟨h0,by intro t ht;exact nomatch ht⟩ ⟨Nat.zero_le 16,by intro t ht;exact nomatch ht⟩ h0 h0 h0 h0 h0 U64_0 hn⟩
theorem qJ_any_10 {n:Nat}(hn:300≤n)(hn2:n≤536870912){w b:ByteArray}(hw:w.size<n)(hbk:b.size<n)(b0:List Int)(e0:Int)(hb0:BB n b0) :
    ∃ (x:Q) (b':List Int) (e':Int),yaa.f n (b0,e0,()) (hdQ 10 w b)=some ((b',e',()),x,())∧BB n b'∧bdQ n x:=by
  have h0:0<n:=by omega
  rw[yaa.e0]
  simp only[yaa.e1,yaa.e2,yaa.e3,yav.e0,yaD.e0,yam.e0,yam.e1,yaZ,Int.reduceBEq,bIf_t,bIf_f,yaU,bnd_s]
  obtain⟨x1,b1,e1,h1,hb1,d1⟩:=(rText hn hn2).any b0 e0 hb0
  rw[h1]
  try simp only[yaU,bnd_s,bIf_t,bIf_f,Int.reduceBEq]
  obtain⟨x2,b2,e2,h2,hb2,d2⟩:=(rNum hn hn2).any b1 e1 hb1
  rw[h2]
  try simp only[yaU,bnd_s,bIf_t,bIf_f,Int.reduceBEq]
  obtain⟨x3,b3,e3,h3,hb3,d3⟩:=(rFlag hn hn2).any b2 e2 hb2
  rw[h3]
  try simp only[yaU,bnd_s,bIf_t,bIf_f,Int.reduceBEq]
  exact⟨_,_,_,rfl,hb3,mkQ hw hbk d1 d2 ⟨h0,yek⟩ ⟨h0,by intro t ht;exact nomatch ht⟩ I64_0 ⟨h0,by intro t ht;exact nomatch ht⟩ ⟨h0,by intro t ht;exact nomatch ht⟩ ⟨Nat.zero_le 16,by intro t ht;exact nomatch ht⟩ h0 h0 h0 h0 h0 U64_0 hn⟩
theorem qJ_any_11 {n:Nat}(hn:300≤n)(hn2:n≤536870912){w b:ByteArray}(hw:w.size<n)(hbk:b.size<n)(b0:List Int)(e0:Int)(hb0:BB n b0) :
    ∃ (x:Q) (b':List Int) (e':Int),yaa.f n (b0,e0,()) (hdQ 11 w b)=some ((b',e',()),x,())∧BB n b'∧bdQ n x:=by
  have h0:0<n:=by omega
  rw[yaa.e0]
  simp only[yaa.e1,yaa.e2,yaa.e3,yav.e0,yaD.e0,yam.e0,yam.e1,yaZ,Int.reduceBEq,bIf_t,bIf_f,yaU,bnd_s]
  obtain⟨x1,b1,e1,h1,hb1,d1⟩:=(rText hn hn2).any b0 e0 hb0
  rw[h1]
  try simp only[yaU,bnd_s,bIf_t,bIf_f,Int.reduceBEq]
  obtain⟨x2,b2,e2,h2,hb2,d2⟩:=(rNum hn hn2).any b1 e1 hb1
  rw[h2]
  try simp only[yaU,bnd_s,bIf_t,bIf_f,Int.reduceBEq]
  obtain⟨x3,b3,e3,h3,hb3,d3⟩:=(rLock hn hn2).any b2 e2 hb2
  rw[h3]
  try simp only[yaU,bnd_s,bIf_t,bIf_f,Int.reduceBEq]
  obtain⟨x4,b4,e4,h4,hb4,d4⟩:=(rFlag hn hn2).any b3 e3 hb3
  rw[h4]
  try simp only[yaU,bnd_s,bIf_t,bIf_f,Int.reduceBEq]
  exact⟨_,_,_,rfl,hb4,mkQ hw hbk d1 d2 ⟨h0,yek⟩ ⟨h0,by intro t ht;exact nomatch ht⟩ d3 ⟨h0,by intro t ht;exact nomatch ht⟩ ⟨h0,by intro t ht;exact nomatch ht⟩ ⟨Nat.zero_le 16,by intro t ht;exact nomatch ht⟩ h0 h0 h0 h0 h0 U64_0 hn⟩
theorem qJ_any_12 {n:Nat}(hn:300≤n)(hn2:n≤536870912){w b:ByteArray}(hw:w.size<n)(hbk:b.size<n)(b0:List Int)(e0:Int)(hb0:BB n b0) :
    ∃ (x:Q) (b':List Int) (e':Int),yaa.f n (b0,e0,()) (hdQ 12 w b)=some ((b',e',()),x,())∧BB n b'∧bdQ n x:=by
  have h0:0<n:=by omega
  rw[yaa.e0]
  simp only[yaa.e1,yaa.e2,yaa.e3,yav.e0,yaD.e0,yam.e0,yam.e1,yaZ,Int.reduceBEq,bIf_t,bIf_f,yaU,bnd_s]
  obtain⟨x1,b1,e1,h1,hb1,d1⟩:=(rText hn hn2).any b0 e0 hb0
  rw[h1]
  try simp only[yaU,bnd_s,bIf_t,bIf_f,Int.reduceBEq]
  obtain⟨x2,b2,e2,h2,hb2,d2⟩:=(rNum hn hn2).any b1 e1 hb1
  rw[h2]
  try simp only[yaU,bnd_s,bIf_t,bIf_f,Int.reduceBEq]
  obtain⟨x3,b3,e3,h3,hb3,d3⟩:=(rLock hn hn2).any b2 e2 hb2
  rw[h3]
  try simp only[yaU,bnd_s,bIf_t,bIf_f,Int.reduceBEq]
  exact⟨_,_,_,rfl,hb3,mkQ hw hbk d1 d2 ⟨h0,yek⟩ ⟨h0,by intro t ht;exact nomatch ht⟩ d3 ⟨h0,by intro t ht;exact nomatch ht⟩ ⟨h0,by intro t ht;exact nomatch ht⟩ ⟨Nat.zero_le 16,by intro t ht;exact nomatch ht⟩ h0 h0 h0 h0 h0 U64_0 hn⟩
theorem qJ_any_13 {n:Nat}(hn:300≤n)(hn2:n≤536870912){w b:ByteArray}(hw:w.size<n)(hbk:b.size<n)(b0:List Int)(e0:Int)(hb0:BB n b0) :
    ∃ (x:Q) (b':List Int) (e':Int),yaa.f n (b0,e0,()) (hdQ 13 w b)=some ((b',e',()),x,())∧BB n b'∧bdQ n x:=by
  have h0:0<n:=by omega
  rw[yaa.e0]
  simp only[yaa.e1,yaa.e2,yaa.e3,yav.e0,yaD.e0,yam.e0,yam.e1,yaZ,Int.reduceBEq,bIf_t,bIf_f,yaU,bnd_s]
  obtain⟨x1,b1,e1,h1,hb1,d1⟩:=(rText hn hn2).any b0 e0 hb0
  rw[h1]
  try simp only[yaU,bnd_s,bIf_t,bIf_f,Int.reduceBEq]
  obtain⟨x2,b2,e2,h2,hb2,d2⟩:=(rNum hn hn2).any b1 e1 hb1
  rw[h2]
  try simp only[yaU,bnd_s,bIf_t,bIf_f,Int.reduceBEq]
  obtain⟨x3,b3,e3,h3,hb3,d3⟩:=(rTags hn hn2).any b2 e2 hb2
  rw[h3]
  try simp only[yaU,bnd_s,bIf_t,bIf_f,Int.reduceBEq]
  exact⟨_,_,_,rfl,hb3,mkQ hw hbk d1 d2 ⟨h0,yek⟩ d3 I64_0 ⟨h0,by intro t ht;exact nomatch ht⟩ ⟨h0,by intro t ht;exact nomatch ht⟩ ⟨Nat.zero_le 16,by intro t ht;exact nomatch ht⟩ h0 h0 h0 h0 h0 U64_0 hn⟩
theorem qJ_any_14 {n:Nat}(hn:300≤n)(hn2:n≤536870912){w b:ByteArray}(hw:w.size<n)(hbk:b.size<n)(b0:List Int)(e0:Int)(hb0:BB n b0) :
    ∃ (x:Q) (b':List Int) (e':Int),yaa.f n (b0,e0,()) (hdQ 14 w b)=some ((b',e',()),x,())∧BB n b'∧bdQ n x:=by
  have h0:0<n:=by omega
  rw[yaa.e0]
  simp only[yaa.e1,yaa.e2,yaa.e3,yav.e0,yaD.e0,yam.e0,yam.e1,yaZ,Int.reduceBEq,bIf_t,bIf_f,yaU,bnd_s]
  obtain⟨x1,b1,e1,h1,hb1,d1⟩:=(rText hn hn2).any b0 e0 hb0
  rw[h1]
  try simp only[yaU,bnd_s,bIf_t,bIf_f,Int.reduceBEq]
  obtain⟨x2,b2,e2,h2,hb2,d2⟩:=(rText hn hn2).any b1 e1 hb1
  rw[h2]
  try simp only[yaU,bnd_s,bIf_t,bIf_f,Int.reduceBEq]
  obtain⟨x3,b3,e3,h3,hb3,d3⟩:=(rText hn hn2).any b2 e2 hb2
  rw[h3]
  try simp only[yaU,bnd_s,bIf_t,bIf_f,Int.reduceBEq]
  obtain⟨x4,b4,e4,h4,hb4,d4⟩:=(rSmall hn hn2).any b3 e3 hb3
  rw[h4]
  try simp only[yaU,bnd_s,bIf_t,bIf_f,Int.reduceBEq]
  exact⟨_,_,_,rfl,hb4,mkQ hw hbk h0 U64_0 ⟨h0,yek⟩ ⟨h0,by intro t ht;exact nomatch ht⟩ I64_0 ⟨h0,by intro t ht;exact nomatch ht⟩ ⟨h0,by intro t ht;exact nomatch ht⟩ ⟨Nat.zero_le 16,by intro t ht;exact nomatch ht⟩ d3 d1 d2 h0 h0 U64_0 hn⟩
theorem qJ_any_15 {n:Nat}(hn:300≤n)(hn2:n≤536870912){w b:ByteArray}(hw:w.size<n)(hbk:b.size<n)(b0:List Int)(e0:Int)(hb0:BB n b0) :
    ∃ (x:Q) (b':List Int) (e':Int),yaa.f n (b0,e0,()) (hdQ 15 w b)=some ((b',e',()),x,())∧BB n b'∧bdQ n x:=by
  have h0:0<n:=by omega
  rw[yaa.e0]
  simp only[yaa.e1,yaa.e2,yaa.e3,yav.e0,yaD.e0,yam.e0,yam.e1,yaZ,Int.reduceBEq,bIf_t,bIf_f,yaU,bnd_s]
  obtain⟨x1,b1,e1,h1,hb1,d1⟩:=(rText hn hn2).any b0 e0 hb0
  rw[h1]
  try simp only[yaU,bnd_s,bIf_t,bIf_f,Int.reduceBEq]
  obtain⟨x2,b2,e2,h2,hb2,d2⟩:=(rText hn hn2).any b1 e1 hb1
  rw[h2]
  try simp only[yaU,bnd_s,bIf_t,bIf_f,Int.reduceBEq]
  obtain⟨x3,b3,e3,h3,hb3,d3⟩:=(rNum hn hn2).any b2 e2 hb2
  rw[h3]
  try simp only[yaU,bnd_s,bIf_t,bIf_f,Int.reduceBEq]
  obtain⟨x4,b4,e4,h4,hb4,d4⟩:=(rSmall hn hn2).any b3 e3 hb3
  rw[h4]
  try simp only[yaU,bnd_s,bIf_t,bIf_f,Int.reduceBEq]
  exact⟨_,_,_,rfl,hb4,mkQ hw hbk h0 U64_0 ⟨h0,yek⟩ ⟨h0,by intro t ht;exact nomatch ht⟩ I64_0 ⟨h0,by intro t ht;exact nomatch ht⟩ ⟨h0,by intro t ht;exact nomatch ht⟩ ⟨Nat.zero_le 16,by intro t ht;exact nomatch ht⟩ h0 d1 h0 h0 d2 d3 hn⟩
theorem qJ_any_16 {n:Nat}(hn:300≤n)(hn2:n≤536870912){w b:ByteArray}(hw:w.size<n)(hbk:b.size<n)(b0:List Int)(e0:Int)(hb0:BB n b0) :
    ∃ (x:Q) (b':List Int) (e':Int),yaa.f n (b0,e0,()) (hdQ 16 w b)=some ((b',e',()),x,())∧BB n b'∧bdQ n x:=by
  have h0:0<n:=by omega
  rw[yaa.e0]
  simp only[yaa.e1,yaa.e2,yaa.e3,yav.e0,yaD.e0,yam.e0,yam.e1,yaZ,Int.reduceBEq,bIf_t,bIf_f,yaU,bnd_s]
  obtain⟨x1,b1,e1,h1,hb1,d1⟩:=(rText hn hn2).any b0 e0 hb0
  rw[h1]
  try simp only[yaU,bnd_s,bIf_t,bIf_f,Int.reduceBEq]
  obtain⟨x2,b2,e2,h2,hb2,d2⟩:=(rTags hn hn2).any b1 e1 hb1
  rw[h2]
  try simp only[yaU,bnd_s,bIf_t,bIf_f,Int.reduceBEq]
  exact⟨_,_,_,rfl,hb2,mkQ hw hbk d1 U64_0 ⟨h0,yek⟩ d2 I64_0 ⟨h0,by intro t ht;exact nomatch ht⟩ ⟨h0,by intro t ht;exact nomatch ht⟩ ⟨Nat.zero_le 16,by intro t ht;exact nomatch ht⟩ h0 h0 h0 h0 h0 U64_0 hn⟩
theorem qJ_any_17 {n:Nat}(hn:300≤n)(hn2:n≤536870912){w b:ByteArray}(hw:w.size<n)(hbk:b.size<n)(b0:List Int)(e0:Int)(hb0:BB n b0) :
    ∃ (x:Q) (b':List Int) (e':Int),yaa.f n (b0,e0,()) (hdQ 17 w b)=some ((b',e',()),x,())∧BB n b'∧bdQ n x:=by
  have h0:0<n:=by omega
  rw[yaa.e0]
  simp only[yaa.e1,yaa.e2,yaa.e3,yav.e0,yaD.e0,yam.e0,yam.e1,yaZ,Int.reduceBEq,bIf_t,bIf_f,yaU,bnd_s]
  obtain⟨x1,b1,e1,h1,hb1,d1⟩:=(rNum hn hn2).any b0 e0 hb0
  rw[h1]
  try simp only[yaU,bnd_s,bIf_t,bIf_f,Int.reduceBEq]
  obtain⟨x2,b2,e2,h2,hb2,d2⟩:=(rSmall hn hn2).any b1 e1 hb1
  rw[h2]
  try simp only[yaU,bnd_s,bIf_t,bIf_f,Int.reduceBEq]
  obtain⟨x3,b3,e3,h3,hb3,d3⟩:=(rBody hn hn2).any b2 e2 hb2
  rw[h3]
  try simp only[yaU,bnd_s,bIf_t,bIf_f,Int.reduceBEq]
  exact⟨_,_,_,rfl,hb3,mkQ hw hbk h0 d1 d3 ⟨h0,by intro t ht;exact nomatch ht⟩ I64_0 ⟨h0,by intro t ht;exact nomatch ht⟩ ⟨h0,by intro t ht;exact nomatch ht⟩ ⟨Nat.zero_le 16,by intro t ht;exact nomatch ht⟩ h0 h0 h0 h0 h0 U64_0 hn⟩
theorem qJ_any_18 {n:Nat}(hn:300≤n)(hn2:n≤536870912){w b:ByteArray}(hw:w.size<n)(hbk:b.size<n)(b0:List Int)(e0:Int)(hb0:BB n b0) :
    ∃ (x:Q) (b':List Int) (e':Int),yaa.f n (b0,e0,()) (hdQ 18 w b)=some ((b',e',()),x,())∧BB n b'∧bdQ n x:=by
  have h0:0<n:=by omega
  rw[yaa.e0]
  simp only[yaa.e1,yaa.e2,yaa.e3,yav.e0,yaD.e0,yam.e0,yam.e1,yaZ,Int.reduceBEq,bIf_t,bIf_f,yaU,bnd_s]
  obtain⟨x1,b1,e1,h1,hb1,d1⟩:=(rNum hn hn2).any b0 e0 hb0
  rw[h1]
  try simp only[yaU,bnd_s,bIf_t,bIf_f,Int.reduceBEq]
  obtain⟨x2,b2,e2,h2,hb2,d2⟩:=(rNums hn hn2).any b1 e1 hb1
  rw[h2]
  try simp only[yaU,bnd_s,bIf_t,bIf_f,Int.reduceBEq]
  exact⟨_,_,_,rfl,hb2,mkQ hw hbk h0 d1 ⟨h0,yek⟩ ⟨h0,by intro t ht;exact nomatch ht⟩ I64_0 ⟨h0,by intro t ht;exact nomatch ht⟩ ⟨h0,by intro t ht;exact nomatch ht⟩ d2 h0 h0 h0 h0 h0 U64_0 hn⟩
theorem qJ_any_19 {n:Nat}(hn:300≤n)(hn2:n≤536870912){w b:ByteArray}(hw:w.size<n)(hbk:b.size<n)(b0:List Int)(e0:Int)(hb0:BB n b0) :
    ∃ (x:Q) (b':List Int) (e':Int),yaa.f n (b0,e0,()) (hdQ 19 w b)=some ((b',e',()),x,())∧BB n b'∧bdQ n x:=by
  have h0:0<n:=by omega
  rw[yaa.e0]
  simp only[yaa.e1,yaa.e2,yaa.e3,yav.e0,yaD.e0,yam.e0,yam.e1,yaZ,Int.reduceBEq,bIf_t,bIf_f,yaU,bnd_s]
  obtain⟨x1,b1,e1,h1,hb1,d1⟩:=(rNum hn hn2).any b0 e0 hb0
  rw[h1]
  try simp only[yaU,bnd_s,bIf_t,bIf_f,Int.reduceBEq]
  exact⟨_,_,_,rfl,hb1,mkQ hw hbk h0 d1 ⟨h0,yek⟩ ⟨h0,by intro t ht;exact nomatch ht⟩ I64_0 ⟨h0,by intro t ht;exact nomatch ht⟩ ⟨h0,by intro t ht;exact nomatch ht⟩ ⟨Nat.zero_le 16,by intro t ht;exact nomatch ht⟩ h0 h0 h0 h0 h0 U64_0 hn⟩
theorem qJ_any_20 {n:Nat}(hn:300≤n)(hn2:n≤536870912){w b:ByteArray}(hw:w.size<n)(hbk:b.size<n)(b0:List Int)(e0:Int)(hb0:BB n b0) :
    ∃ (x:Q) (b':List Int) (e':Int),yaa.f n (b0,e0,()) (hdQ 20 w b)=some ((b',e',()),x,())∧BB n b'∧bdQ n x:=by
  have h0:0<n:=by omega
  rw[yaa.e0]
  simp only[yaa.e1,yaa.e2,yaa.e3,yav.e0,yaD.e0,yam.e0,yam.e1,yaZ,Int.reduceBEq,bIf_t,bIf_f,yaU,bnd_s]
  obtain⟨x1,b1,e1,h1,hb1,d1⟩:=(rText hn hn2).any b0 e0 hb0
  rw[h1]
  try simp only[yaU,bnd_s,bIf_t,bIf_f,Int.reduceBEq]
  obtain⟨x2,b2,e2,h2,hb2,d2⟩:=(rText hn hn2).any b1 e1 hb1
  rw[h2]
  try simp only[yaU,bnd_s,bIf_t,bIf_f,Int.reduceBEq]
  obtain⟨x3,b3,e3,h3,hb3,d3⟩:=(rText hn hn2).any b2 e2 hb2
  rw[h3]
  try simp only[yaU,bnd_s,bIf_t,bIf_f,Int.reduceBEq]
  obtain⟨x4,b4,e4,h4,hb4,d4⟩:=(rNum hn hn2).any b3 e3 hb3
  rw[h4]
  try simp only[yaU,bnd_s,bIf_t,bIf_f,Int.reduceBEq]
  exact⟨_,_,_,rfl,hb4,mkQ hw hbk d1 U64_0 ⟨h0,yek⟩ ⟨h0,by intro t ht;exact nomatch ht⟩ I64_0 ⟨h0,by intro t ht;exact nomatch ht⟩ ⟨h0,by intro t ht;exact nomatch ht⟩ ⟨Nat.zero_le 16,by intro t ht;exact nomatch ht⟩ h0 h0 h0 d2 d3 d4 hn⟩
theorem qJ_any_21 {n:Nat}(hn:300≤n)(hn2:n≤536870912){w b:ByteArray}(hw:w.size<n)(hbk:b.size<n)(b0:List Int)(e0:Int)(hb0:BB n b0) :
    ∃ (x:Q) (b':List Int) (e':Int),yaa.f n (b0,e0,()) (hdQ 21 w b)=some ((b',e',()),x,())∧BB n b'∧bdQ n x:=by
  have h0:0<n:=by omega
  rw[yaa.e0]
  simp only[yaa.e1,yaa.e2,yaa.e3,yav.e0,yaD.e0,yam.e0,yam.e1,yaZ,Int.reduceBEq,bIf_t,bIf_f,yaU,bnd_s]
  exact⟨_,_,_,rfl,hb0,mkQ hw hbk h0 U64_0 ⟨h0,yek⟩ ⟨h0,by intro t ht;exact nomatch ht⟩ I64_0 ⟨h0,by intro t ht;exact nomatch ht⟩ ⟨h0,by intro t ht;exact nomatch ht⟩ ⟨Nat.zero_le 16,by intro t ht;exact nomatch ht⟩ h0 h0 h0 h0 h0 U64_0 hn⟩
theorem qJ_any_22 {n:Nat}(hn:300≤n)(hn2:n≤536870912){w b:ByteArray}(hw:w.size<n)(hbk:b.size<n)(b0:List Int)(e0:Int)(hb0:BB n b0) :
    ∃ (x:Q) (b':List Int) (e':Int),yaa.f n (b0,e0,()) (hdQ 22 w b)=some ((b',e',()),x,())∧BB n b'∧bdQ n x:=by
  have h0:0<n:=by omega
  rw[yaa.e0]
  simp only[yaa.e1,yaa.e2,yaa.e3,yav.e0,yaD.e0,yam.e0,yam.e1,yaZ,Int.reduceBEq,bIf_t,bIf_f,yaU,bnd_s]
  exact⟨_,_,_,rfl,hb0,mkQ hw hbk h0 U64_0 ⟨h0,yek⟩ ⟨h0,by intro t ht;exact nomatch ht⟩ I64_0 ⟨h0,by intro t ht;exact nomatch ht⟩ ⟨h0,by intro t ht;exact nomatch ht⟩ ⟨Nat.zero_le 16,by intro t ht;exact nomatch ht⟩ h0 h0 h0 h0 h0 U64_0 hn⟩
theorem qJ_enc_1 {n:Nat}(hn:300≤n)(hn2:n≤536870912)(w:ByteArray)(b:ByteArray)(y:ByteArray)(i:Int)(bo:List Int)(tg:List yak)(l:yan)(q:Bool)(d:yad)(r:List yag)(g:List yac)(nu:Int)(ns:List Int)(af:ByteArray)(pr:ByteArray)(ma:ByteArray)(fr:yaq)(mx:Int)(u:Unit)(hs:SndQ (1,w,b,y,i,bo,tg,l,q,d,r,g,nu,ns,af,pr,ma,fr,mx,u))(hr:QR (1,w,b,y,i,bo,tg,l,q,d,r,g,nu,ns,af,pr,ma,fr,mx,u))(hy:BY bo)(rest:List Int)(hb:BB n (eP (1,w,b,y,i,bo,tg,l,q,d,r,g,nu,ns,af,pr,ma,fr,mx,u)++rest)) :
    yaa.f n (eP (1,w,b,y,i,bo,tg,l,q,d,r,g,nu,ns,af,pr,ma,fr,mx,u)++rest,0,()) (hdQ 1 w b)=some ((rest,0,()),(1,w,b,y,i,bo,tg,l,q,d,r,g,nu,ns,af,pr,ma,fr,mx,u),()):=by
  have zk:y=(⟨#[]⟩:ByteArray):=ybh (yap hs.f107 (show inB (hasQ 1) 107=false by decide +kernel))
  have zi:i=0:=beq_iff_eq.1 (yap hs.f105 (show inB (hasQ 1) 105=false by decide +kernel))
  have zB:bo=[]:=len0 (yap hs.f66 (show inB (hasQ 1) 66=false by decide +kernel))
  have zt:tg=[]:=len0 (yap hs.f116 (show inB (hasQ 1) 116=false by decide +kernel))
  have zl:l=lockZ:=yeT (yap hs.f108 (show inB (hasQ 1) 108=false by decide +kernel))
  have zy:q=false:=yd4 (yap hs.f121 (show inB (hasQ 1) 121=false by decide +kernel))
  have gd:=ybe hs.f100 (show inB (hasQ 1) 100=true by decide +kernel)
  have zr:r=[]:=len0 (yap hs.f114 (show inB (hasQ 1) 114=false by decide +kernel))
  have zg:g=[]:=len0 (yap hs.f103 (show inB (hasQ 1) 103=false by decide +kernel))
  have zn:nu=0:=beq_iff_eq.1 (yap hs.f110 (show inB (hasQ 1) 110=false by decide +kernel))
  have zN:ns=[]:=len0 (yap hs.f78 (show inB (hasQ 1) 78=false by decide +kernel))
  have za:af=(⟨#[]⟩:ByteArray):=ybh (yap hs.f97 (show inB (hasQ 1) 97=false by decide +kernel))
  have zp:pr=(⟨#[]⟩:ByteArray):=ybh (yap hs.f112 (show inB (hasQ 1) 112=false by decide +kernel))
  have zm:ma=(⟨#[]⟩:ByteArray):=ybh (yap hs.f109 (show inB (hasQ 1) 109=false by decide +kernel))
  have zf:fr=spotZ:=yeU (yap hs.f102 (show inB (hasQ 1) 102=false by decide +kernel))
  have zx:mx=0:=beq_iff_eq.1 (yap hs.f120 (show inB (hasQ 1) 120=false by decide +kernel))
  rw[eP_1]at hb ⊢
  try simp only[List.append_assoc]at hb ⊢
  rw[yaa.e0]
  simp only[yaa.e1,yaa.e2,yaa.e3,yav.e0,yaD.e0,yam.e0,yam.e1,yaZ,Int.reduceBEq,bIf_t,bIf_f,yaU,bnd_s]
  rw[(rDef hn hn2).enc _ _ (okDef_of gd) hb]
  try simp only[yaU,bnd_s,bIf_t,bIf_f,Int.reduceBEq]
  rw[zk,zi,zB,zt,zl,zy,zr,zg,zn,zN,za,zp,zm,zf,zx]
theorem qJ_enc_2 {n:Nat}(hn:300≤n)(hn2:n≤536870912)(w:ByteArray)(b:ByteArray)(y:ByteArray)(i:Int)(bo:List Int)(tg:List yak)(l:yan)(q:Bool)(d:yad)(r:List yag)(g:List yac)(nu:Int)(ns:List Int)(af:ByteArray)(pr:ByteArray)(ma:ByteArray)(fr:yaq)(mx:Int)(u:Unit)(hs:SndQ (2,w,b,y,i,bo,tg,l,q,d,r,g,nu,ns,af,pr,ma,fr,mx,u))(hr:QR (2,w,b,y,i,bo,tg,l,q,d,r,g,nu,ns,af,pr,ma,fr,mx,u))(hy:BY bo)(rest:List Int)(hb:BB n (eP (2,w,b,y,i,bo,tg,l,q,d,r,g,nu,ns,af,pr,ma,fr,mx,u)++rest)) :
    yaa.f n (eP (2,w,b,y,i,bo,tg,l,q,d,r,g,nu,ns,af,pr,ma,fr,mx,u)++rest,0,()) (hdQ 2 w b)=some ((rest,0,()),(2,w,b,y,i,bo,tg,l,q,d,r,g,nu,ns,af,pr,ma,fr,mx,u),()):=by
  have zk:y=(⟨#[]⟩:ByteArray):=ybh (yap hs.f107 (show inB (hasQ 2) 107=false by decide +kernel))
  have zi:i=0:=beq_iff_eq.1 (yap hs.f105 (show inB (hasQ 2) 105=false by decide +kernel))
  have zB:bo=[]:=len0 (yap hs.f66 (show inB (hasQ 2) 66=false by decide +kernel))
  have zt:tg=[]:=len0 (yap hs.f116 (show inB (hasQ 2) 116=false by decide +kernel))
  have zl:l=lockZ:=yeT (yap hs.f108 (show inB (hasQ 2) 108=false by decide +kernel))
  have zy:q=false:=yd4 (yap hs.f121 (show inB (hasQ 2) 121=false by decide +kernel))
  have zd:d=(0,(0,())):=defEq (yap hs.f100 (show inB (hasQ 2) 100=false by decide +kernel))
  have zr:r=[]:=len0 (yap hs.f114 (show inB (hasQ 2) 114=false by decide +kernel))
  have zg:g=[]:=len0 (yap hs.f103 (show inB (hasQ 2) 103=false by decide +kernel))
  have zn:nu=0:=beq_iff_eq.1 (yap hs.f110 (show inB (hasQ 2) 110=false by decide +kernel))
  have zN:ns=[]:=len0 (yap hs.f78 (show inB (hasQ 2) 78=false by decide +kernel))
  have za:af=(⟨#[]⟩:ByteArray):=ybh (yap hs.f97 (show inB (hasQ 2) 97=false by decide +kernel))
  have zp:pr=(⟨#[]⟩:ByteArray):=ybh (yap hs.f112 (show inB (hasQ 2) 112=false by decide +kernel))
  have zm:ma=(⟨#[]⟩:ByteArray):=ybh (yap hs.f109 (show inB (hasQ 2) 109=false by decide +kernel))
  have zf:fr=spotZ:=yeU (yap hs.f102 (show inB (hasQ 2) 102=false by decide +kernel))
  have zx:mx=0:=beq_iff_eq.1 (yap hs.f120 (show inB (hasQ 2) 120=false by decide +kernel))
  rw[eP_2]at hb ⊢
  try simp only[List.append_assoc]at hb ⊢
  rw[yaa.e0]
  simp only[yaa.e1,yaa.e2,yaa.e3,yav.e0,yaD.e0,yam.e0,yam.e1,yaZ,Int.reduceBEq,bIf_t,bIf_f,yaU,bnd_s]
  rw[zk,zi,zB,zt,zl,zy,zd,zr,zg,zn,zN,za,zp,zm,zf,zx]
  try rfl
theorem qJ_enc_3 {n:Nat}(hn:300≤n)(hn2:n≤536870912)(w:ByteArray)(b:ByteArray)(y:ByteArray)(i:Int)(bo:List Int)(tg:List yak)(l:yan)(q:Bool)(d:yad)(r:List yag)(g:List yac)(nu:Int)(ns:List Int)(af:ByteArray)(pr:ByteArray)(ma:ByteArray)(fr:yaq)(mx:Int)(u:Unit)(hs:SndQ (3,w,b,y,i,bo,tg,l,q,d,r,g,nu,ns,af,pr,ma,fr,mx,u))(hr:QR (3,w,b,y,i,bo,tg,l,q,d,r,g,nu,ns,af,pr,ma,fr,mx,u))(hy:BY bo)(rest:List Int)(hb:BB n (eP (3,w,b,y,i,bo,tg,l,q,d,r,g,nu,ns,af,pr,ma,fr,mx,u)++rest)) :
    yaa.f n (eP (3,w,b,y,i,bo,tg,l,q,d,r,g,nu,ns,af,pr,ma,fr,mx,u)++rest,0,()) (hdQ 3 w b)=some ((rest,0,()),(3,w,b,y,i,bo,tg,l,q,d,r,g,nu,ns,af,pr,ma,fr,mx,u),()):=by
  have zk:y=(⟨#[]⟩:ByteArray):=ybh (yap hs.f107 (show inB (hasQ 3) 107=false by decide +kernel))
  have zi:i=0:=beq_iff_eq.1 (yap hs.f105 (show inB (hasQ 3) 105=false by decide +kernel))
  have zB:bo=[]:=len0 (yap hs.f66 (show inB (hasQ 3) 66=false by decide +kernel))
  have zt:tg=[]:=len0 (yap hs.f116 (show inB (hasQ 3) 116=false by decide +kernel))
  have zl:l=lockZ:=yeT (yap hs.f108 (show inB (hasQ 3) 108=false by decide +kernel))
  have zy:q=false:=yd4 (yap hs.f121 (show inB (hasQ 3) 121=false by decide +kernel))
  have gd:=ybe hs.f100 (show inB (hasQ 3) 100=true by decide +kernel)
  have zr:r=[]:=len0 (yap hs.f114 (show inB (hasQ 3) 114=false by decide +kernel))
  have zg:g=[]:=len0 (yap hs.f103 (show inB (hasQ 3) 103=false by decide +kernel))
  have zn:nu=0:=beq_iff_eq.1 (yap hs.f110 (show inB (hasQ 3) 110=false by decide +kernel))
  have zN:ns=[]:=len0 (yap hs.f78 (show inB (hasQ 3) 78=false by decide +kernel))
  have za:af=(⟨#[]⟩:ByteArray):=ybh (yap hs.f97 (show inB (hasQ 3) 97=false by decide +kernel))
  have zp:pr=(⟨#[]⟩:ByteArray):=ybh (yap hs.f112 (show inB (hasQ 3) 112=false by decide +kernel))
  have zm:ma=(⟨#[]⟩:ByteArray):=ybh (yap hs.f109 (show inB (hasQ 3) 109=false by decide +kernel))
  have zf:fr=spotZ:=yeU (yap hs.f102 (show inB (hasQ 3) 102=false by decide +kernel))
  have zx:mx=0:=beq_iff_eq.1 (yap hs.f120 (show inB (hasQ 3) 120=false by decide +kernel))
  rw[eP_3]at hb ⊢
  try simp only[List.append_assoc]at hb ⊢
  rw[yaa.e0]
  simp only[yaa.e1,yaa.e2,yaa.e3,yav.e0,yaD.e0,yam.e0,yam.e1,yaZ,Int.reduceBEq,bIf_t,bIf_f,yaU,bnd_s]
  rw[(rDef hn hn2).enc _ _ (okDef_of gd) hb]
  try simp only[yaU,bnd_s,bIf_t,bIf_f,Int.reduceBEq]
  rw[zk,zi,zB,zt,zl,zy,zr,zg,zn,zN,za,zp,zm,zf,zx]
theorem qJ_enc_4 {n:Nat}(hn:300≤n)(hn2:n≤536870912)(w:ByteArray)(b:ByteArray)(y:ByteArray)(i:Int)(bo:List Int)(tg:List yak)(l:yan)(q:Bool)(d:yad)(r:List yag)(g:List yac)(nu:Int)(ns:List Int)(af:ByteArray)(pr:ByteArray)(ma:ByteArray)(fr:yaq)(mx:Int)(u:Unit)(hs:SndQ (4,w,b,y,i,bo,tg,l,q,d,r,g,nu,ns,af,pr,ma,fr,mx,u))(hr:QR (4,w,b,y,i,bo,tg,l,q,d,r,g,nu,ns,af,pr,ma,fr,mx,u))(hy:BY bo)(rest:List Int)(hb:BB n (eP (4,w,b,y,i,bo,tg,l,q,d,r,g,nu,ns,af,pr,ma,fr,mx,u)++rest)) :
    yaa.f n (eP (4,w,b,y,i,bo,tg,l,q,d,r,g,nu,ns,af,pr,ma,fr,mx,u)++rest,0,()) (hdQ 4 w b)=some ((rest,0,()),(4,w,b,y,i,bo,tg,l,q,d,r,g,nu,ns,af,pr,ma,fr,mx,u),()):=by
  have zk:y=(⟨#[]⟩:ByteArray):=ybh (yap hs.f107 (show inB (hasQ 4) 107=false by decide +kernel))
  have zi:i=0:=beq_iff_eq.1 (yap hs.f105 (show inB (hasQ 4) 105=false by decide +kernel))
  have zB:bo=[]:=len0 (yap hs.f66 (show inB (hasQ 4) 66=false by decide +kernel))
  have zt:tg=[]:=len0 (yap hs.f116 (show inB (hasQ 4) 116=false by decide +kernel))
  have zl:l=lockZ:=yeT (yap hs.f108 (show inB (hasQ 4) 108=false by decide +kernel))
  have zy:q=false:=yd4 (yap hs.f121 (show inB (hasQ 4) 121=false by decide +kernel))
  have zd:d=(0,(0,())):=defEq (yap hs.f100 (show inB (hasQ 4) 100=false by decide +kernel))
  have gr:=ybe hs.f114 (show inB (hasQ 4) 114=true by decide +kernel)
  have zg:g=[]:=len0 (yap hs.f103 (show inB (hasQ 4) 103=false by decide +kernel))
  have zn:nu=0:=beq_iff_eq.1 (yap hs.f110 (show inB (hasQ 4) 110=false by decide +kernel))
  have zN:ns=[]:=len0 (yap hs.f78 (show inB (hasQ 4) 78=false by decide +kernel))
  have za:af=(⟨#[]⟩:ByteArray):=ybh (yap hs.f97 (show inB (hasQ 4) 97=false by decide +kernel))
  have zp:pr=(⟨#[]⟩:ByteArray):=ybh (yap hs.f112 (show inB (hasQ 4) 112=false by decide +kernel))
  have zm:ma=(⟨#[]⟩:ByteArray):=ybh (yap hs.f109 (show inB (hasQ 4) 109=false by decide +kernel))
  have zf:fr=spotZ:=yeU (yap hs.f102 (show inB (hasQ 4) 102=false by decide +kernel))
  have zx:mx=0:=beq_iff_eq.1 (yap hs.f120 (show inB (hasQ 4) 120=false by decide +kernel))
  rw[eP_4]at hb ⊢
  try simp only[List.append_assoc]at hb ⊢
  rw[yaa.e0]
  simp only[yaa.e1,yaa.e2,yaa.e3,yav.e0,yaD.e0,yam.e0,yam.e1,yaZ,Int.reduceBEq,bIf_t,bIf_f,yaU,bnd_s]
  rw[(rRules hn hn2).enc _ _ (okRules_of gr) hb]
  try simp only[yaU,bnd_s,bIf_t,bIf_f,Int.reduceBEq]
  rw[zk,zi,zB,zt,zl,zy,zd,zg,zn,zN,za,zp,zm,zf,zx]
theorem qJ_enc_5 {n:Nat}(hn:300≤n)(hn2:n≤536870912)(w:ByteArray)(b:ByteArray)(y:ByteArray)(i:Int)(bo:List Int)(tg:List yak)(l:yan)(q:Bool)(d:yad)(r:List yag)(g:List yac)(nu:Int)(ns:List Int)(af:ByteArray)(pr:ByteArray)(ma:ByteArray)(fr:yaq)(mx:Int)(u:Unit)(hs:SndQ (5,w,b,y,i,bo,tg,l,q,d,r,g,nu,ns,af,pr,ma,fr,mx,u))(hr:QR (5,w,b,y,i,bo,tg,l,q,d,r,g,nu,ns,af,pr,ma,fr,mx,u))(hy:BY bo)(rest:List Int)(hb:BB n (eP (5,w,b,y,i,bo,tg,l,q,d,r,g,nu,ns,af,pr,ma,fr,mx,u)++rest)) :
    yaa.f n (eP (5,w,b,y,i,bo,tg,l,q,d,r,g,nu,ns,af,pr,ma,fr,mx,u)++rest,0,()) (hdQ 5 w b)=some ((rest,0,()),(5,w,b,y,i,bo,tg,l,q,d,r,g,nu,ns,af,pr,ma,fr,mx,u),()):=by
  have zk:y=(⟨#[]⟩:ByteArray):=ybh (yap hs.f107 (show inB (hasQ 5) 107=false by decide +kernel))
  have zi:i=0:=beq_iff_eq.1 (yap hs.f105 (show inB (hasQ 5) 105=false by decide +kernel))
  have zB:bo=[]:=len0 (yap hs.f66 (show inB (hasQ 5) 66=false by decide +kernel))
  have zt:tg=[]:=len0 (yap hs.f116 (show inB (hasQ 5) 116=false by decide +kernel))
  have zl:l=lockZ:=yeT (yap hs.f108 (show inB (hasQ 5) 108=false by decide +kernel))
  have zy:q=false:=yd4 (yap hs.f121 (show inB (hasQ 5) 121=false by decide +kernel))
  have zd:d=(0,(0,())):=defEq (yap hs.f100 (show inB (hasQ 5) 100=false by decide +kernel))
  have zr:r=[]:=len0 (yap hs.f114 (show inB (hasQ 5) 114=false by decide +kernel))
  have gg:=ybe hs.f103 (show inB (hasQ 5) 103=true by decide +kernel)
  have zn:nu=0:=beq_iff_eq.1 (yap hs.f110 (show inB (hasQ 5) 110=false by decide +kernel))
  have zN:ns=[]:=len0 (yap hs.f78 (show inB (hasQ 5) 78=false by decide +kernel))
  have za:af=(⟨#[]⟩:ByteArray):=ybh (yap hs.f97 (show inB (hasQ 5) 97=false by decide +kernel))
  have zp:pr=(⟨#[]⟩:ByteArray):=ybh (yap hs.f112 (show inB (hasQ 5) 112=false by decide +kernel))
  have zm:ma=(⟨#[]⟩:ByteArray):=ybh (yap hs.f109 (show inB (hasQ 5) 109=false by decide +kernel))
  have zf:fr=spotZ:=yeU (yap hs.f102 (show inB (hasQ 5) 102=false by decide +kernel))
  have zx:mx=0:=beq_iff_eq.1 (yap hs.f120 (show inB (hasQ 5) 120=false by decide +kernel))
  rw[eP_5]at hb ⊢
  try simp only[List.append_assoc]at hb ⊢
  rw[yaa.e0]
  simp only[yaa.e1,yaa.e2,yaa.e3,yav.e0,yaD.e0,yam.e0,yam.e1,yaZ,Int.reduceBEq,bIf_t,bIf_f,yaU,bnd_s]
  rw[(rGrants hn hn2).enc _ _ (okGrants_of gg) hb]
  try simp only[yaU,bnd_s,bIf_t,bIf_f,Int.reduceBEq]
  rw[zk,zi,zB,zt,zl,zy,zd,zr,zn,zN,za,zp,zm,zf,zx]
theorem qJ_enc_6 {n:Nat}(hn:300≤n)(hn2:n≤536870912)(w:ByteArray)(b:ByteArray)(y:ByteArray)(i:Int)(bo:List Int)(tg:List yak)(l:yan)(q:Bool)(d:yad)(r:List yag)(g:List yac)(nu:Int)(ns:List Int)(af:ByteArray)(pr:ByteArray)(ma:ByteArray)(fr:yaq)(mx:Int)(u:Unit)(hs:SndQ (6,w,b,y,i,bo,tg,l,q,d,r,g,nu,ns,af,pr,ma,fr,mx,u))(hr:QR (6,w,b,y,i,bo,tg,l,q,d,r,g,nu,ns,af,pr,ma,fr,mx,u))(hy:BY bo)(rest:List Int)(hb:BB n (eP (6,w,b,y,i,bo,tg,l,q,d,r,g,nu,ns,af,pr,ma,fr,mx,u)++rest)) :
    yaa.f n (eP (6,w,b,y,i,bo,tg,l,q,d,r,g,nu,ns,af,pr,ma,fr,mx,u)++rest,0,()) (hdQ 6 w b)=some ((rest,0,()),(6,w,b,y,i,bo,tg,l,q,d,r,g,nu,ns,af,pr,ma,fr,mx,u),()):=by
  have gk:=ybe hs.f107 (show inB (hasQ 6) 107=true by decide +kernel)
  have zi:i=0:=beq_iff_eq.1 (yap hs.f105 (show inB (hasQ 6) 105=false by decide +kernel))
  have gB:=ybe hs.f66 (show inB (hasQ 6) 66=true by decide +kernel)
  have gt:=ybe hs.f116 (show inB (hasQ 6) 116=true by decide +kernel)
  have gl:=ybe hs.f108 (show inB (hasQ 6) 108=true by decide +kernel)
  have zy:q=false:=yd4 (yap hs.f121 (show inB (hasQ 6) 121=false by decide +kernel))
  have zd:d=(0,(0,())):=defEq (yap hs.f100 (show inB (hasQ 6) 100=false by decide +kernel))
  have zr:r=[]:=len0 (yap hs.f114 (show inB (hasQ 6) 114=false by decide +kernel))
  have zg:g=[]:=len0 (yap hs.f103 (show inB (hasQ 6) 103=false by decide +kernel))
  have zn:nu=0:=beq_iff_eq.1 (yap hs.f110 (show inB (hasQ 6) 110=false by decide +kernel))
  have zN:ns=[]:=len0 (yap hs.f78 (show inB (hasQ 6) 78=false by decide +kernel))
  have za:af=(⟨#[]⟩:ByteArray):=ybh (yap hs.f97 (show inB (hasQ 6) 97=false by decide +kernel))
  have zp:pr=(⟨#[]⟩:ByteArray):=ybh (yap hs.f112 (show inB (hasQ 6) 112=false by decide +kernel))
  have zm:ma=(⟨#[]⟩:ByteArray):=ybh (yap hs.f109 (show inB (hasQ 6) 109=false by decide +kernel))
  have zf:fr=spotZ:=yeU (yap hs.f102 (show inB (hasQ 6) 102=false by decide +kernel))
  have zx:mx=0:=beq_iff_eq.1 (yap hs.f120 (show inB (hasQ 6) 120=false by decide +kernel))
  rw[eP_6]at hb ⊢
  try simp only[List.append_assoc]at hb ⊢
  rw[yaa.e0]
  simp only[yaa.e1,yaa.e2,yaa.e3,yav.e0,yaD.e0,yam.e0,yam.e1,yaZ,Int.reduceBEq,bIf_t,bIf_f,yaU,bnd_s]
  rw[(rText hn hn2).enc _ _ (show y.size≤16384 by have h200:y.size≤200:=ydk gk;omega) hb]
  try simp only[yaU,bnd_s,bIf_t,bIf_f,Int.reduceBEq]
  replace hb:=ybD hb
  rw[(rBody hn hn2).enc bo _ (show okBody bo from ⟨by have h2:((bo.length:Nat):Int)≤1024:=of_decide_eq_true gB;omega,hy⟩) hb]
  try simp only[yaU,bnd_s,bIf_t,bIf_f,Int.reduceBEq]
  replace hb:=ybD hb
  rw[(rTags hn hn2).enc _ _ (okTags_of gt) hb]
  try simp only[yaU,bnd_s,bIf_t,bIf_f,Int.reduceBEq]
  replace hb:=ybD hb
  rw[(rLock hn hn2).enc _ _ (okLock_of (Bool.and_eq_true _ _ ▸ gl).1 hr.l) hb]
  try simp only[yaU,bnd_s,bIf_t,bIf_f,Int.reduceBEq]
  rw[zi,zy,zd,zr,zg,zn,zN,za,zp,zm,zf,zx]
theorem qJ_enc_7 {n:Nat}(hn:300≤n)(hn2:n≤536870912)(w:ByteArray)(b:ByteArray)(y:ByteArray)(i:Int)(bo:List Int)(tg:List yak)(l:yan)(q:Bool)(d:yad)(r:List yag)(g:List yac)(nu:Int)(ns:List Int)(af:ByteArray)(pr:ByteArray)(ma:ByteArray)(fr:yaq)(mx:Int)(u:Unit)(hs:SndQ (7,w,b,y,i,bo,tg,l,q,d,r,g,nu,ns,af,pr,ma,fr,mx,u))(hr:QR (7,w,b,y,i,bo,tg,l,q,d,r,g,nu,ns,af,pr,ma,fr,mx,u))(hy:BY bo)(rest:List Int)(hb:BB n (eP (7,w,b,y,i,bo,tg,l,q,d,r,g,nu,ns,af,pr,ma,fr,mx,u)++rest)) :
    yaa.f n (eP (7,w,b,y,i,bo,tg,l,q,d,r,g,nu,ns,af,pr,ma,fr,mx,u)++rest,0,()) (hdQ 7 w b)=some ((rest,0,()),(7,w,b,y,i,bo,tg,l,q,d,r,g,nu,ns,af,pr,ma,fr,mx,u),()):=by
  have gk:=ybe hs.f107 (show inB (hasQ 7) 107=true by decide +kernel)
  have gi:=ybe hs.f105 (show inB (hasQ 7) 105=true by decide +kernel)
  have zB:bo=[]:=len0 (yap hs.f66 (show inB (hasQ 7) 66=false by decide +kernel))
  have zt:tg=[]:=len0 (yap hs.f116 (show inB (hasQ 7) 116=false by decide +kernel))
  have zl:l=lockZ:=yeT (yap hs.f108 (show inB (hasQ 7) 108=false by decide +kernel))
  have zy:q=false:=yd4 (yap hs.f121 (show inB (hasQ 7) 121=false by decide +kernel))
  have zd:d=(0,(0,())):=defEq (yap hs.f100 (show inB (hasQ 7) 100=false by decide +kernel))
  have zr:r=[]:=len0 (yap hs.f114 (show inB (hasQ 7) 114=false by decide +kernel))
  have zg:g=[]:=len0 (yap hs.f103 (show inB (hasQ 7) 103=false by decide +kernel))
  have zn:nu=0:=beq_iff_eq.1 (yap hs.f110 (show inB (hasQ 7) 110=false by decide +kernel))
  have zN:ns=[]:=len0 (yap hs.f78 (show inB (hasQ 7) 78=false by decide +kernel))
  have za:af=(⟨#[]⟩:ByteArray):=ybh (yap hs.f97 (show inB (hasQ 7) 97=false by decide +kernel))
  have zp:pr=(⟨#[]⟩:ByteArray):=ybh (yap hs.f112 (show inB (hasQ 7) 112=false by decide +kernel))
  have zm:ma=(⟨#[]⟩:ByteArray):=ybh (yap hs.f109 (show inB (hasQ 7) 109=false by decide +kernel))
  have zf:fr=spotZ:=yeU (yap hs.f102 (show inB (hasQ 7) 102=false by decide +kernel))
  have zx:mx=0:=beq_iff_eq.1 (yap hs.f120 (show inB (hasQ 7) 120=false by decide +kernel))
  rw[eP_7]at hb ⊢
  try simp only[List.append_assoc]at hb ⊢
  rw[yaa.e0]
  simp only[yaa.e1,yaa.e2,yaa.e3,yav.e0,yaD.e0,yam.e0,yam.e1,yaZ,Int.reduceBEq,bIf_t,bIf_f,yaU,bnd_s]
  rw[(rText hn hn2).enc _ _ (show y.size≤16384 by have h200:y.size≤200:=ydk gk;omega) hb]
  try simp only[yaU,bnd_s,bIf_t,bIf_f,Int.reduceBEq]
  replace hb:=ybD hb
  rw[(rNum hn hn2).enc _ _ hr.i hb]
  try simp only[yaU,bnd_s,bIf_t,bIf_f,Int.reduceBEq]
  rw[zB,zt,zl,zy,zd,zr,zg,zn,zN,za,zp,zm,zf,zx]
theorem qJ_enc_8 {n:Nat}(hn:300≤n)(hn2:n≤536870912)(w:ByteArray)(b:ByteArray)(y:ByteArray)(i:Int)(bo:List Int)(tg:List yak)(l:yan)(q:Bool)(d:yad)(r:List yag)(g:List yac)(nu:Int)(ns:List Int)(af:ByteArray)(pr:ByteArray)(ma:ByteArray)(fr:yaq)(mx:Int)(u:Unit)(hs:SndQ (8,w,b,y,i,bo,tg,l,q,d,r,g,nu,ns,af,pr,ma,fr,mx,u))(hr:QR (8,w,b,y,i,bo,tg,l,q,d,r,g,nu,ns,af,pr,ma,fr,mx,u))(hy:BY bo)(rest:List Int)(hb:BB n (eP (8,w,b,y,i,bo,tg,l,q,d,r,g,nu,ns,af,pr,ma,fr,mx,u)++rest)) :
    yaa.f n (eP (8,w,b,y,i,bo,tg,l,q,d,r,g,nu,ns,af,pr,ma,fr,mx,u)++rest,0,()) (hdQ 8 w b)=some ((rest,0,()),(8,w,b,y,i,bo,tg,l,q,d,r,g,nu,ns,af,pr,ma,fr,mx,u),()):=by
  have gk:=ybe hs.f107 (show inB (hasQ 8) 107=true by decide +kernel)
  have gi:=ybe hs.f105 (show inB (hasQ 8) 105=true by decide +kernel)
  have zB:bo=[]:=len0 (yap hs.f66 (show inB (hasQ 8) 66=false by decide +kernel))
  have zt:tg=[]:=len0 (yap hs.f116 (show inB (hasQ 8) 116=false by decide +kernel))
  have zl:l=lockZ:=yeT (yap hs.f108 (show inB (hasQ 8) 108=false by decide +kernel))
  have zy:q=false:=yd4 (yap hs.f121 (show inB (hasQ 8) 121=false by decide +kernel))
  have zd:d=(0,(0,())):=defEq (yap hs.f100 (show inB (hasQ 8) 100=false by decide +kernel))
  have zr:r=[]:=len0 (yap hs.f114 (show inB (hasQ 8) 114=false by decide +kernel))
  have zg:g=[]:=len0 (yap hs.f103 (show inB (hasQ 8) 103=false by decide +kernel))
  have zn:nu=0:=beq_iff_eq.1 (yap hs.f110 (show inB (hasQ 8) 110=false by decide +kernel))
  have zN:ns=[]:=len0 (yap hs.f78 (show inB (hasQ 8) 78=false by decide +kernel))
  have za:af=(⟨#[]⟩:ByteArray):=ybh (yap hs.f97 (show inB (hasQ 8) 97=false by decide +kernel))
  have zp:pr=(⟨#[]⟩:ByteArray):=ybh (yap hs.f112 (show inB (hasQ 8) 112=false by decide +kernel))
  have zm:ma=(⟨#[]⟩:ByteArray):=ybh (yap hs.f109 (show inB (hasQ 8) 109=false by decide +kernel))
  have zf:fr=spotZ:=yeU (yap hs.f102 (show inB (hasQ 8) 102=false by decide +kernel))
  have zx:mx=0:=beq_iff_eq.1 (yap hs.f120 (show inB (hasQ 8) 120=false by decide +kernel))
  rw[eP_8]at hb ⊢
  try simp only[List.append_assoc]at hb ⊢
  rw[yaa.e0]
  simp only[yaa.e1,yaa.e2,yaa.e3,yav.e0,yaD.e0,yam.e0,yam.e1,yaZ,Int.reduceBEq,bIf_t,bIf_f,yaU,bnd_s]
  rw[(rText hn hn2).enc _ _ (show y.size≤16384 by have h200:y.size≤200:=ydk gk;omega) hb]
  try simp only[yaU,bnd_s,bIf_t,bIf_f,Int.reduceBEq]
  replace hb:=ybD hb
  rw[(rNum hn hn2).enc _ _ hr.i hb]
  try simp only[yaU,bnd_s,bIf_t,bIf_f,Int.reduceBEq]
  rw[zB,zt,zl,zy,zd,zr,zg,zn,zN,za,zp,zm,zf,zx]
theorem qJ_enc_9 {n:Nat}(hn:300≤n)(hn2:n≤536870912)(w:ByteArray)(b:ByteArray)(y:ByteArray)(i:Int)(bo:List Int)(tg:List yak)(l:yan)(q:Bool)(d:yad)(r:List yag)(g:List yac)(nu:Int)(ns:List Int)(af:ByteArray)(pr:ByteArray)(ma:ByteArray)(fr:yaq)(mx:Int)(u:Unit)(hs:SndQ (9,w,b,y,i,bo,tg,l,q,d,r,g,nu,ns,af,pr,ma,fr,mx,u))(hr:QR (9,w,b,y,i,bo,tg,l,q,d,r,g,nu,ns,af,pr,ma,fr,mx,u))(hy:BY bo)(rest:List Int)(hb:BB n (eP (9,w,b,y,i,bo,tg,l,q,d,r,g,nu,ns,af,pr,ma,fr,mx,u)++rest)) :
    yaa.f n (eP (9,w,b,y,i,bo,tg,l,q,d,r,g,nu,ns,af,pr,ma,fr,mx,u)++rest,0,()) (hdQ 9 w b)=some ((rest,0,()),(9,w,b,y,i,bo,tg,l,q,d,r,g,nu,ns,af,pr,ma,fr,mx,u),()):=by
  have gk:=ybe hs.f107 (show inB (hasQ 9) 107=true by decide +kernel)
  have zi:i=0:=beq_iff_eq.1 (yap hs.f105 (show inB (hasQ 9) 105=false by decide +kernel))
  have zB:bo=[]:=len0 (yap hs.f66 (show inB (hasQ 9) 66=false by decide +kernel))
  have zt:tg=[]:=len0 (yap hs.f116 (show inB (hasQ 9) 116=false by decide +kernel))
  have zl:l=lockZ:=yeT (yap hs.f108 (show inB (hasQ 9) 108=false by decide +kernel))
  have zy:q=false:=yd4 (yap hs.f121 (show inB (hasQ 9) 121=false by decide +kernel))
  have zd:d=(0,(0,())):=defEq (yap hs.f100 (show inB (hasQ 9) 100=false by decide +kernel))
  have zr:r=[]:=len0 (yap hs.f114 (show inB (hasQ 9) 114=false by decide +kernel))
  have zg:g=[]:=len0 (yap hs.f103 (show inB (hasQ 9) 103=false by decide +kernel))
  have zn:nu=0:=beq_iff_eq.1 (yap hs.f110 (show inB (hasQ 9) 110=false by decide +kernel))
  have zN:ns=[]:=len0 (yap hs.f78 (show inB (hasQ 9) 78=false by decide +kernel))
  have za:af=(⟨#[]⟩:ByteArray):=ybh (yap hs.f97 (show inB (hasQ 9) 97=false by decide +kernel))
  have zp:pr=(⟨#[]⟩:ByteArray):=ybh (yap hs.f112 (show inB (hasQ 9) 112=false by decide +kernel))
  have zm:ma=(⟨#[]⟩:ByteArray):=ybh (yap hs.f109 (show inB (hasQ 9) 109=false by decide +kernel))
  have zf:fr=spotZ:=yeU (yap hs.f102 (show inB (hasQ 9) 102=false by decide +kernel))
  have zx:mx=0:=beq_iff_eq.1 (yap hs.f120 (show inB (hasQ 9) 120=false by decide +kernel))
  rw[eP_9]at hb ⊢
  try simp only[List.append_assoc]at hb ⊢
  rw[yaa.e0]
  simp only[yaa.e1,yaa.e2,yaa.e3,yav.e0,yaD.e0,yam.e0,yam.e1,yaZ,Int.reduceBEq,bIf_t,bIf_f,yaU,bnd_s]
  rw[(rText hn hn2).enc _ _ (show y.size≤16384 by have h200:y.size≤200:=ydk gk;omega) hb]
  try simp only[yaU,bnd_s,bIf_t,bIf_f,Int.reduceBEq]
  rw[zi,zB,zt,zl,zy,zd,zr,zg,zn,zN,za,zp,zm,zf,zx]
theorem qJ_enc_10 {n:Nat}(hn:300≤n)(hn2:n≤536870912)(w:ByteArray)(b:ByteArray)(y:ByteArray)(i:Int)(bo:List Int)(tg:List yak)(l:yan)(q:Bool)(d:yad)(r:List yag)(g:List yac)(nu:Int)(ns:List Int)(af:ByteArray)(pr:ByteArray)(ma:ByteArray)(fr:yaq)(mx:Int)(u:Unit)(hs:SndQ (10,w,b,y,i,bo,tg,l,q,d,r,g,nu,ns,af,pr,ma,fr,mx,u))(hr:QR (10,w,b,y,i,bo,tg,l,q,d,r,g,nu,ns,af,pr,ma,fr,mx,u))(hy:BY bo)(rest:List Int)(hb:BB n (eP (10,w,b,y,i,bo,tg,l,q,d,r,g,nu,ns,af,pr,ma,fr,mx,u)++rest)) :
    yaa.f n (eP (10,w,b,y,i,bo,tg,l,q,d,r,g,nu,ns,af,pr,ma,fr,mx,u)++rest,0,()) (hdQ 10 w b)=some ((rest,0,()),(10,w,b,y,i,bo,tg,l,q,d,r,g,nu,ns,af,pr,ma,fr,mx,u),()):=by
  have gk:=ybe hs.f107 (show inB (hasQ 10) 107=true by decide +kernel)
  have gi:=ybe hs.f105 (show inB (hasQ 10) 105=true by decide +kernel)
  have zB:bo=[]:=len0 (yap hs.f66 (show inB (hasQ 10) 66=false by decide +kernel))
  have zt:tg=[]:=len0 (yap hs.f116 (show inB (hasQ 10) 116=false by decide +kernel))
  have zl:l=lockZ:=yeT (yap hs.f108 (show inB (hasQ 10) 108=false by decide +kernel))
  have gy:=ybe hs.f121 (show inB (hasQ 10) 121=true by decide +kernel)
  have zd:d=(0,(0,())):=defEq (yap hs.f100 (show inB (hasQ 10) 100=false by decide +kernel))
  have zr:r=[]:=len0 (yap hs.f114 (show inB (hasQ 10) 114=false by decide +kernel))
  have zg:g=[]:=len0 (yap hs.f103 (show inB (hasQ 10) 103=false by decide +kernel))
  have zn:nu=0:=beq_iff_eq.1 (yap hs.f110 (show inB (hasQ 10) 110=false by decide +kernel))
  have zN:ns=[]:=len0 (yap hs.f78 (show inB (hasQ 10) 78=false by decide +kernel))
  have za:af=(⟨#[]⟩:ByteArray):=ybh (yap hs.f97 (show inB (hasQ 10) 97=false by decide +kernel))
  have zp:pr=(⟨#[]⟩:ByteArray):=ybh (yap hs.f112 (show inB (hasQ 10) 112=false by decide +kernel))
  have zm:ma=(⟨#[]⟩:ByteArray):=ybh (yap hs.f109 (show inB (hasQ 10) 109=false by decide +kernel))
  have zf:fr=spotZ:=yeU (yap hs.f102 (show inB (hasQ 10) 102=false by decide +kernel))
  have zx:mx=0:=beq_iff_eq.1 (yap hs.f120 (show inB (hasQ 10) 120=false by decide +kernel))
  rw[eP_10]at hb ⊢
  try simp only[List.append_assoc]at hb ⊢
  rw[yaa.e0]
  simp only[yaa.e1,yaa.e2,yaa.e3,yav.e0,yaD.e0,yam.e0,yam.e1,yaZ,Int.reduceBEq,bIf_t,bIf_f,yaU,bnd_s]
  rw[(rText hn hn2).enc _ _ (show y.size≤16384 by have h200:y.size≤200:=ydk gk;omega) hb]
  try simp only[yaU,bnd_s,bIf_t,bIf_f,Int.reduceBEq]
  replace hb:=ybD hb
  rw[(rNum hn hn2).enc _ _ hr.i hb]
  try simp only[yaU,bnd_s,bIf_t,bIf_f,Int.reduceBEq]
  replace hb:=ybD hb
  rw[(rFlag hn hn2).enc _ _ trivial hb]
  try simp only[yaU,bnd_s,bIf_t,bIf_f,Int.reduceBEq]
  rw[zB,zt,zl,zd,zr,zg,zn,zN,za,zp,zm,zf,zx]
theorem qJ_enc_11 {n:Nat}(hn:300≤n)(hn2:n≤536870912)(w:ByteArray)(b:ByteArray)(y:ByteArray)(i:Int)(bo:List Int)(tg:List yak)(l:yan)(q:Bool)(d:yad)(r:List yag)(g:List yac)(nu:Int)(ns:List Int)(af:ByteArray)(pr:ByteArray)(ma:ByteArray)(fr:yaq)(mx:Int)(u:Unit)(hs:SndQ (11,w,b,y,i,bo,tg,l,q,d,r,g,nu,ns,af,pr,ma,fr,mx,u))(hr:QR (11,w,b,y,i,bo,tg,l,q,d,r,g,nu,ns,af,pr,ma,fr,mx,u))(hy:BY bo)(rest:List Int)(hb:BB n (eP (11,w,b,y,i,bo,tg,l,q,d,r,g,nu,ns,af,pr,ma,fr,mx,u)++rest)) :
    yaa.f n (eP (11,w,b,y,i,bo,tg,l,q,d,r,g,nu,ns,af,pr,ma,fr,mx,u)++rest,0,()) (hdQ 11 w b)=some ((rest,0,()),(11,w,b,y,i,bo,tg,l,q,d,r,g,nu,ns,af,pr,ma,fr,mx,u),()):=by
  have gk:=ybe hs.f107 (show inB (hasQ 11) 107=true by decide +kernel)
  have gi:=ybe hs.f105 (show inB (hasQ 11) 105=true by decide +kernel)
  have zB:bo=[]:=len0 (yap hs.f66 (show inB (hasQ 11) 66=false by decide +kernel))
  have zt:tg=[]:=len0 (yap hs.f116 (show inB (hasQ 11) 116=false by decide +kernel))
  have gl:=ybe hs.f108 (show inB (hasQ 11) 108=true by decide +kernel)
  have gy:=ybe hs.f121 (show inB (hasQ 11) 121=true by decide +kernel)
  have zd:d=(0,(0,())):=defEq (yap hs.f100 (show inB (hasQ 11) 100=false by decide +kernel))
  have zr:r=[]:=len0 (yap hs.f114 (show inB (hasQ 11) 114=false by decide +kernel))
  have zg:g=[]:=len0 (yap hs.f103 (show inB (hasQ 11) 103=false by decide +kernel))
  have zn:nu=0:=beq_iff_eq.1 (yap hs.f110 (show inB (hasQ 11) 110=false by decide +kernel))
  have zN:ns=[]:=len0 (yap hs.f78 (show inB (hasQ 11) 78=false by decide +kernel))
  have za:af=(⟨#[]⟩:ByteArray):=ybh (yap hs.f97 (show inB (hasQ 11) 97=false by decide +kernel))
  have zp:pr=(⟨#[]⟩:ByteArray):=ybh (yap hs.f112 (show inB (hasQ 11) 112=false by decide +kernel))
  have zm:ma=(⟨#[]⟩:ByteArray):=ybh (yap hs.f109 (show inB (hasQ 11) 109=false by decide +kernel))
  have zf:fr=spotZ:=yeU (yap hs.f102 (show inB (hasQ 11) 102=false by decide +kernel))
  have zx:mx=0:=beq_iff_eq.1 (yap hs.f120 (show inB (hasQ 11) 120=false by decide +kernel))
  rw[eP_11]at hb ⊢
  try simp only[List.append_assoc]at hb ⊢
  rw[yaa.e0]
  simp only[yaa.e1,yaa.e2,yaa.e3,yav.e0,yaD.e0,yam.e0,yam.e1,yaZ,Int.reduceBEq,bIf_t,bIf_f,yaU,bnd_s]
  rw[(rText hn hn2).enc _ _ (show y.size≤16384 by have h200:y.size≤200:=ydk gk;omega) hb]
  try simp only[yaU,bnd_s,bIf_t,bIf_f,Int.reduceBEq]
  replace hb:=ybD hb
  rw[(rNum hn hn2).enc _ _ hr.i hb]
  try simp only[yaU,bnd_s,bIf_t,bIf_f,Int.reduceBEq]
  replace hb:=ybD hb
  rw[(rLock hn hn2).enc _ _ (okLock_of (Bool.and_eq_true _ _ ▸ gl).1 hr.l) hb]
  try simp only[yaU,bnd_s,bIf_t,bIf_f,Int.reduceBEq]
  replace hb:=ybD hb
  rw[(rFlag hn hn2).enc _ _ trivial hb]
  try simp only[yaU,bnd_s,bIf_t,bIf_f,Int.reduceBEq]
  rw[zB,zt,zd,zr,zg,zn,zN,za,zp,zm,zf,zx]
theorem qJ_enc_12 {n:Nat}(hn:300≤n)(hn2:n≤536870912)(w:ByteArray)(b:ByteArray)(y:ByteArray)(i:Int)(bo:List Int)(tg:List yak)(l:yan)(q:Bool)(d:yad)(r:List yag)(g:List yac)(nu:Int)(ns:List Int)(af:ByteArray)(pr:ByteArray)(ma:ByteArray)(fr:yaq)(mx:Int)(u:Unit)(hs:SndQ (12,w,b,y,i,bo,tg,l,q,d,r,g,nu,ns,af,pr,ma,fr,mx,u))(hr:QR (12,w,b,y,i,bo,tg,l,q,d,r,g,nu,ns,af,pr,ma,fr,mx,u))(hy:BY bo)(rest:List Int)(hb:BB n (eP (12,w,b,y,i,bo,tg,l,q,d,r,g,nu,ns,af,pr,ma,fr,mx,u)++rest)) :
    yaa.f n (eP (12,w,b,y,i,bo,tg,l,q,d,r,g,nu,ns,af,pr,ma,fr,mx,u)++rest,0,()) (hdQ 12 w b)=some ((rest,0,()),(12,w,b,y,i,bo,tg,l,q,d,r,g,nu,ns,af,pr,ma,fr,mx,u),()):=by
  have gk:=ybe hs.f107 (show inB (hasQ 12) 107=true by decide +kernel)
  have gi:=ybe hs.f105 (show inB (hasQ 12) 105=true by decide +kernel)
  have zB:bo=[]:=len0 (yap hs.f66 (show inB (hasQ 12) 66=false by decide +kernel))
  have zt:tg=[]:=len0 (yap hs.f116 (show inB (hasQ 12) 116=false by decide +kernel))
  have gl:=ybe hs.f108 (show inB (hasQ 12) 108=true by decide +kernel)
  have zy:q=false:=yd4 (yap hs.f121 (show inB (hasQ 12) 121=false by decide +kernel))
  have zd:d=(0,(0,())):=defEq (yap hs.f100 (show inB (hasQ 12) 100=false by decide +kernel))
  have zr:r=[]:=len0 (yap hs.f114 (show inB (hasQ 12) 114=false by decide +kernel))
  have zg:g=[]:=len0 (yap hs.f103 (show inB (hasQ 12) 103=false by decide +kernel))
  have zn:nu=0:=beq_iff_eq.1 (yap hs.f110 (show inB (hasQ 12) 110=false by decide +kernel))
  have zN:ns=[]:=len0 (yap hs.f78 (show inB (hasQ 12) 78=false by decide +kernel))
  have za:af=(⟨#[]⟩:ByteArray):=ybh (yap hs.f97 (show inB (hasQ 12) 97=false by decide +kernel))
  have zp:pr=(⟨#[]⟩:ByteArray):=ybh (yap hs.f112 (show inB (hasQ 12) 112=false by decide +kernel))
  have zm:ma=(⟨#[]⟩:ByteArray):=ybh (yap hs.f109 (show inB (hasQ 12) 109=false by decide +kernel))
  have zf:fr=spotZ:=yeU (yap hs.f102 (show inB (hasQ 12) 102=false by decide +kernel))
  have zx:mx=0:=beq_iff_eq.1 (yap hs.f120 (show inB (hasQ 12) 120=false by decide +kernel))
  rw[eP_12]at hb ⊢
  try simp only[List.append_assoc]at hb ⊢
  rw[yaa.e0]
  simp only[yaa.e1,yaa.e2,yaa.e3,yav.e0,yaD.e0,yam.e0,yam.e1,yaZ,Int.reduceBEq,bIf_t,bIf_f,yaU,bnd_s]
  rw[(rText hn hn2).enc _ _ (show y.size≤16384 by have h200:y.size≤200:=ydk gk;omega) hb]
  try simp only[yaU,bnd_s,bIf_t,bIf_f,Int.reduceBEq]
  replace hb:=ybD hb
  rw[(rNum hn hn2).enc _ _ hr.i hb]
  try simp only[yaU,bnd_s,bIf_t,bIf_f,Int.reduceBEq]
  replace hb:=ybD hb
  rw[(rLock hn hn2).enc _ _ (okLock_of (Bool.and_eq_true _ _ ▸ gl).1 hr.l) hb]
  try simp only[yaU,bnd_s,bIf_t,bIf_f,Int.reduceBEq]
  rw[zB,zt,zy,zd,zr,zg,zn,zN,za,zp,zm,zf,zx]
theorem qJ_enc_13 {n:Nat}(hn:300≤n)(hn2:n≤536870912)(w:ByteArray)(b:ByteArray)(y:ByteArray)(i:Int)(bo:List Int)(tg:List yak)(l:yan)(q:Bool)(d:yad)(r:List yag)(g:List yac)(nu:Int)(ns:List Int)(af:ByteArray)(pr:ByteArray)(ma:ByteArray)(fr:yaq)(mx:Int)(u:Unit)(hs:SndQ (13,w,b,y,i,bo,tg,l,q,d,r,g,nu,ns,af,pr,ma,fr,mx,u))(hr:QR (13,w,b,y,i,bo,tg,l,q,d,r,g,nu,ns,af,pr,ma,fr,mx,u))(hy:BY bo)(rest:List Int)(hb:BB n (eP (13,w,b,y,i,bo,tg,l,q,d,r,g,nu,ns,af,pr,ma,fr,mx,u)++rest)) :
    yaa.f n (eP (13,w,b,y,i,bo,tg,l,q,d,r,g,nu,ns,af,pr,ma,fr,mx,u)++rest,0,()) (hdQ 13 w b)=some ((rest,0,()),(13,w,b,y,i,bo,tg,l,q,d,r,g,nu,ns,af,pr,ma,fr,mx,u),()):=by
  have gk:=ybe hs.f107 (show inB (hasQ 13) 107=true by decide +kernel)
  have gi:=ybe hs.f105 (show inB (hasQ 13) 105=true by decide +kernel)
  have zB:bo=[]:=len0 (yap hs.f66 (show inB (hasQ 13) 66=false by decide +kernel))
  have gt:=ybe hs.f116 (show inB (hasQ 13) 116=true by decide +kernel)
  have zl:l=lockZ:=yeT (yap hs.f108 (show inB (hasQ 13) 108=false by decide +kernel))
  have zy:q=false:=yd4 (yap hs.f121 (show inB (hasQ 13) 121=false by decide +kernel))
  have zd:d=(0,(0,())):=defEq (yap hs.f100 (show inB (hasQ 13) 100=false by decide +kernel))
  have zr:r=[]:=len0 (yap hs.f114 (show inB (hasQ 13) 114=false by decide +kernel))
  have zg:g=[]:=len0 (yap hs.f103 (show inB (hasQ 13) 103=false by decide +kernel))
  have zn:nu=0:=beq_iff_eq.1 (yap hs.f110 (show inB (hasQ 13) 110=false by decide +kernel))
  have zN:ns=[]:=len0 (yap hs.f78 (show inB (hasQ 13) 78=false by decide +kernel))
  have za:af=(⟨#[]⟩:ByteArray):=ybh (yap hs.f97 (show inB (hasQ 13) 97=false by decide +kernel))
  have zp:pr=(⟨#[]⟩:ByteArray):=ybh (yap hs.f112 (show inB (hasQ 13) 112=false by decide +kernel))
  have zm:ma=(⟨#[]⟩:ByteArray):=ybh (yap hs.f109 (show inB (hasQ 13) 109=false by decide +kernel))
  have zf:fr=spotZ:=yeU (yap hs.f102 (show inB (hasQ 13) 102=false by decide +kernel))
  have zx:mx=0:=beq_iff_eq.1 (yap hs.f120 (show inB (hasQ 13) 120=false by decide +kernel))
  rw[eP_13]at hb ⊢
  try simp only[List.append_assoc]at hb ⊢
  rw[yaa.e0]
  simp only[yaa.e1,yaa.e2,yaa.e3,yav.e0,yaD.e0,yam.e0,yam.e1,yaZ,Int.reduceBEq,bIf_t,bIf_f,yaU,bnd_s]
  rw[(rText hn hn2).enc _ _ (show y.size≤16384 by have h200:y.size≤200:=ydk gk;omega) hb]
  try simp only[yaU,bnd_s,bIf_t,bIf_f,Int.reduceBEq]
  replace hb:=ybD hb
  rw[(rNum hn hn2).enc _ _ hr.i hb]
  try simp only[yaU,bnd_s,bIf_t,bIf_f,Int.reduceBEq]
  replace hb:=ybD hb
  rw[(rTags hn hn2).enc _ _ (okTags_of gt) hb]
  try simp only[yaU,bnd_s,bIf_t,bIf_f,Int.reduceBEq]
  rw[zB,zl,zy,zd,zr,zg,zn,zN,za,zp,zm,zf,zx]
theorem qJ_enc_14 {n:Nat}(hn:300≤n)(hn2:n≤536870912)(w:ByteArray)(b:ByteArray)(y:ByteArray)(i:Int)(bo:List Int)(tg:List yak)(l:yan)(q:Bool)(d:yad)(r:List yag)(g:List yac)(nu:Int)(ns:List Int)(af:ByteArray)(pr:ByteArray)(ma:ByteArray)(fr:yaq)(mx:Int)(u:Unit)(hs:SndQ (14,w,b,y,i,bo,tg,l,q,d,r,g,nu,ns,af,pr,ma,fr,mx,u))(hr:QR (14,w,b,y,i,bo,tg,l,q,d,r,g,nu,ns,af,pr,ma,fr,mx,u))(hy:BY bo)(rest:List Int)(hb:BB n (eP (14,w,b,y,i,bo,tg,l,q,d,r,g,nu,ns,af,pr,ma,fr,mx,u)++rest)) :
    yaa.f n (eP (14,w,b,y,i,bo,tg,l,q,d,r,g,nu,ns,af,pr,ma,fr,mx,u)++rest,0,()) (hdQ 14 w b)=some ((rest,0,()),(14,w,b,y,i,bo,tg,l,q,d,r,g,nu,ns,af,pr,ma,fr,mx,u),()):=by
  have zk:y=(⟨#[]⟩:ByteArray):=ybh (yap hs.f107 (show inB (hasQ 14) 107=false by decide +kernel))
  have zi:i=0:=beq_iff_eq.1 (yap hs.f105 (show inB (hasQ 14) 105=false by decide +kernel))
  have zB:bo=[]:=len0 (yap hs.f66 (show inB (hasQ 14) 66=false by decide +kernel))
  have zt:tg=[]:=len0 (yap hs.f116 (show inB (hasQ 14) 116=false by decide +kernel))
  have zl:l=lockZ:=yeT (yap hs.f108 (show inB (hasQ 14) 108=false by decide +kernel))
  have zy:q=false:=yd4 (yap hs.f121 (show inB (hasQ 14) 121=false by decide +kernel))
  have zd:d=(0,(0,())):=defEq (yap hs.f100 (show inB (hasQ 14) 100=false by decide +kernel))
  have zr:r=[]:=len0 (yap hs.f114 (show inB (hasQ 14) 114=false by decide +kernel))
  have zg:g=[]:=len0 (yap hs.f103 (show inB (hasQ 14) 103=false by decide +kernel))
  have zn:nu=0:=beq_iff_eq.1 (yap hs.f110 (show inB (hasQ 14) 110=false by decide +kernel))
  have zN:ns=[]:=len0 (yap hs.f78 (show inB (hasQ 14) 78=false by decide +kernel))
  have ga:=ybe hs.f97 (show inB (hasQ 14) 97=true by decide +kernel)
  have gp:=ybe hs.f112 (show inB (hasQ 14) 112=true by decide +kernel)
  have gm:=ybe hs.f109 (show inB (hasQ 14) 109=true by decide +kernel)
  have zf:fr=spotZ:=yeU (yap hs.f102 (show inB (hasQ 14) 102=false by decide +kernel))
  have gx:=ybe hs.f120 (show inB (hasQ 14) 120=true by decide +kernel)
  rw[eP_14]at hb ⊢
  try simp only[List.append_assoc]at hb ⊢
  rw[yaa.e0]
  simp only[yaa.e1,yaa.e2,yaa.e3,yav.e0,yaD.e0,yam.e0,yam.e1,yaZ,Int.reduceBEq,bIf_t,bIf_f,yaU,bnd_s]
  rw[(rText hn hn2).enc _ _ (show pr.size≤16384 by have h2:pr.size≤200:=yeH gp;omega) hb]
  try simp only[yaU,bnd_s,bIf_t,bIf_f,Int.reduceBEq]
  replace hb:=ybD hb
  rw[(rText hn hn2).enc _ _ (show ma.size≤16384 by have h2:ma.size≤200:=yeH gm;omega) hb]
  try simp only[yaU,bnd_s,bIf_t,bIf_f,Int.reduceBEq]
  replace hb:=ybD hb
  rw[(rText hn hn2).enc _ _ (show af.size≤16384 by have h2:af.size≤200:=yeH ga;omega) hb]
  try simp only[yaU,bnd_s,bIf_t,bIf_f,Int.reduceBEq]
  replace hb:=ybD hb
  rw[(rSmall hn hn2).enc _ _ (show 0≤mx∧mx≤1099511627776 by have h2:(decide (mx≥1)&&decide (mx≤100))=true:=gx;rw[Bool.and_eq_true,decide_eq_true_iff,decide_eq_true_iff]at h2;omega) hb]
  try simp only[yaU,bnd_s,bIf_t,bIf_f,Int.reduceBEq]
  rw[zk,zi,zB,zt,zl,zy,zd,zr,zg,zn,zN,zf]
theorem qJ_enc_15 {n:Nat}(hn:300≤n)(hn2:n≤536870912)(w:ByteArray)(b:ByteArray)(y:ByteArray)(i:Int)(bo:List Int)(tg:List yak)(l:yan)(q:Bool)(d:yad)(r:List yag)(g:List yac)(nu:Int)(ns:List Int)(af:ByteArray)(pr:ByteArray)(ma:ByteArray)(fr:yaq)(mx:Int)(u:Unit)(hs:SndQ (15,w,b,y,i,bo,tg,l,q,d,r,g,nu,ns,af,pr,ma,fr,mx,u))(hr:QR (15,w,b,y,i,bo,tg,l,q,d,r,g,nu,ns,af,pr,ma,fr,mx,u))(hy:BY bo)(rest:List Int)(hb:BB n (eP (15,w,b,y,i,bo,tg,l,q,d,r,g,nu,ns,af,pr,ma,fr,mx,u)++rest)) :
    yaa.f n (eP (15,w,b,y,i,bo,tg,l,q,d,r,g,nu,ns,af,pr,ma,fr,mx,u)++rest,0,()) (hdQ 15 w b)=some ((rest,0,()),(15,w,b,y,i,bo,tg,l,q,d,r,g,nu,ns,af,pr,ma,fr,mx,u),()):=by
  have zk:y=(⟨#[]⟩:ByteArray):=ybh (yap hs.f107 (show inB (hasQ 15) 107=false by decide +kernel))
  have zi:i=0:=beq_iff_eq.1 (yap hs.f105 (show inB (hasQ 15) 105=false by decide +kernel))
  have zB:bo=[]:=len0 (yap hs.f66 (show inB (hasQ 15) 66=false by decide +kernel))
  have zt:tg=[]:=len0 (yap hs.f116 (show inB (hasQ 15) 116=false by decide +kernel))
  have zl:l=lockZ:=yeT (yap hs.f108 (show inB (hasQ 15) 108=false by decide +kernel))
  have zy:q=false:=yd4 (yap hs.f121 (show inB (hasQ 15) 121=false by decide +kernel))
  have zd:d=(0,(0,())):=defEq (yap hs.f100 (show inB (hasQ 15) 100=false by decide +kernel))
  have zr:r=[]:=len0 (yap hs.f114 (show inB (hasQ 15) 114=false by decide +kernel))
  have zg:g=[]:=len0 (yap hs.f103 (show inB (hasQ 15) 103=false by decide +kernel))
  have zn:nu=0:=beq_iff_eq.1 (yap hs.f110 (show inB (hasQ 15) 110=false by decide +kernel))
  have zN:ns=[]:=len0 (yap hs.f78 (show inB (hasQ 15) 78=false by decide +kernel))
  have za:af=(⟨#[]⟩:ByteArray):=ybh (yap hs.f97 (show inB (hasQ 15) 97=false by decide +kernel))
  have gp:=ybe hs.f112 (show inB (hasQ 15) 112=true by decide +kernel)
  have zm:ma=(⟨#[]⟩:ByteArray):=ybh (yap hs.f109 (show inB (hasQ 15) 109=false by decide +kernel))
  have gf:=ybe hs.f102 (show inB (hasQ 15) 102=true by decide +kernel)
  have gx:=ybe hs.f120 (show inB (hasQ 15) 120=true by decide +kernel)
  have g6:(eqS fr.1 ⟨#[]⟩&&nameB fr.2.1)=true:=gf
  rw[Bool.and_eq_true]at g6
  have g7:=yeH g6.2
  have g8:=ybh g6.1
  rw[eP_15]at hb ⊢
  try simp only[List.append_assoc]at hb ⊢
  rw[yaa.e0]
  simp only[yaa.e1,yaa.e2,yaa.e3,yav.e0,yaD.e0,yam.e0,yam.e1,yaZ,Int.reduceBEq,bIf_t,bIf_f,yaU,bnd_s]
  rw[(rText hn hn2).enc _ _ (show pr.size≤16384 by have h2:pr.size≤200:=yeH gp;omega) hb]
  try simp only[yaU,bnd_s,bIf_t,bIf_f,Int.reduceBEq]
  replace hb:=ybD hb
  rw[(rText hn hn2).enc _ _ (show fr.2.1.size≤16384 by omega) hb]
  try simp only[yaU,bnd_s,bIf_t,bIf_f,Int.reduceBEq]
  replace hb:=ybD hb
  rw[(rNum hn hn2).enc _ _ hr.fi hb]
  try simp only[yaU,bnd_s,bIf_t,bIf_f,Int.reduceBEq]
  replace hb:=ybD hb
  rw[(rSmall hn hn2).enc _ _ (show 0≤mx∧mx≤1099511627776 by have h2:(decide (mx≥1)&&decide (mx≤100))=true:=gx;rw[Bool.and_eq_true,decide_eq_true_iff,decide_eq_true_iff]at h2;omega) hb]
  try simp only[yaU,bnd_s,bIf_t,bIf_f,Int.reduceBEq]
  rw[zk,zi,zB,zt,zl,zy,zd,zr,zg,zn,zN,za,zm]
  try rw[← g8]
theorem qJ_enc_16 {n:Nat}(hn:300≤n)(hn2:n≤536870912)(w:ByteArray)(b:ByteArray)(y:ByteArray)(i:Int)(bo:List Int)(tg:List yak)(l:yan)(q:Bool)(d:yad)(r:List yag)(g:List yac)(nu:Int)(ns:List Int)(af:ByteArray)(pr:ByteArray)(ma:ByteArray)(fr:yaq)(mx:Int)(u:Unit)(hs:SndQ (16,w,b,y,i,bo,tg,l,q,d,r,g,nu,ns,af,pr,ma,fr,mx,u))(hr:QR (16,w,b,y,i,bo,tg,l,q,d,r,g,nu,ns,af,pr,ma,fr,mx,u))(hy:BY bo)(rest:List Int)(hb:BB n (eP (16,w,b,y,i,bo,tg,l,q,d,r,g,nu,ns,af,pr,ma,fr,mx,u)++rest)) :
    yaa.f n (eP (16,w,b,y,i,bo,tg,l,q,d,r,g,nu,ns,af,pr,ma,fr,mx,u)++rest,0,()) (hdQ 16 w b)=some ((rest,0,()),(16,w,b,y,i,bo,tg,l,q,d,r,g,nu,ns,af,pr,ma,fr,mx,u),()):=by
  have gk:=ybe hs.f107 (show inB (hasQ 16) 107=true by decide +kernel)
  have zi:i=0:=beq_iff_eq.1 (yap hs.f105 (show inB (hasQ 16) 105=false by decide +kernel))
  have zB:bo=[]:=len0 (yap hs.f66 (show inB (hasQ 16) 66=false by decide +kernel))
  have gt:=ybe hs.f116 (show inB (hasQ 16) 116=true by decide +kernel)
  have zl:l=lockZ:=yeT (yap hs.f108 (show inB (hasQ 16) 108=false by decide +kernel))
  have zy:q=false:=yd4 (yap hs.f121 (show inB (hasQ 16) 121=false by decide +kernel))
  have zd:d=(0,(0,())):=defEq (yap hs.f100 (show inB (hasQ 16) 100=false by decide +kernel))
  have zr:r=[]:=len0 (yap hs.f114 (show inB (hasQ 16) 114=false by decide +kernel))
  have zg:g=[]:=len0 (yap hs.f103 (show inB (hasQ 16) 103=false by decide +kernel))
  have zn:nu=0:=beq_iff_eq.1 (yap hs.f110 (show inB (hasQ 16) 110=false by decide +kernel))
  have zN:ns=[]:=len0 (yap hs.f78 (show inB (hasQ 16) 78=false by decide +kernel))
  have za:af=(⟨#[]⟩:ByteArray):=ybh (yap hs.f97 (show inB (hasQ 16) 97=false by decide +kernel))
  have zp:pr=(⟨#[]⟩:ByteArray):=ybh (yap hs.f112 (show inB (hasQ 16) 112=false by decide +kernel))
  have zm:ma=(⟨#[]⟩:ByteArray):=ybh (yap hs.f109 (show inB (hasQ 16) 109=false by decide +kernel))
  have zf:fr=spotZ:=yeU (yap hs.f102 (show inB (hasQ 16) 102=false by decide +kernel))
  have zx:mx=0:=beq_iff_eq.1 (yap hs.f120 (show inB (hasQ 16) 120=false by decide +kernel))
  rw[eP_16]at hb ⊢
  try simp only[List.append_assoc]at hb ⊢
  rw[yaa.e0]
  simp only[yaa.e1,yaa.e2,yaa.e3,yav.e0,yaD.e0,yam.e0,yam.e1,yaZ,Int.reduceBEq,bIf_t,bIf_f,yaU,bnd_s]
  rw[(rText hn hn2).enc _ _ (show y.size≤16384 by have h200:y.size≤200:=ydk gk;omega) hb]
  try simp only[yaU,bnd_s,bIf_t,bIf_f,Int.reduceBEq]
  replace hb:=ybD hb
  rw[(rTags hn hn2).enc _ _ (okTags_of gt) hb]
  try simp only[yaU,bnd_s,bIf_t,bIf_f,Int.reduceBEq]
  rw[zi,zB,zl,zy,zd,zr,zg,zn,zN,za,zp,zm,zf,zx]
theorem qJ_enc_17 {n:Nat}(hn:300≤n)(hn2:n≤536870912)(w:ByteArray)(b:ByteArray)(y:ByteArray)(i:Int)(bo:List Int)(tg:List yak)(l:yan)(q:Bool)(d:yad)(r:List yag)(g:List yac)(nu:Int)(ns:List Int)(af:ByteArray)(pr:ByteArray)(ma:ByteArray)(fr:yaq)(mx:Int)(u:Unit)(hs:SndQ (17,w,b,y,i,bo,tg,l,q,d,r,g,nu,ns,af,pr,ma,fr,mx,u))(hr:QR (17,w,b,y,i,bo,tg,l,q,d,r,g,nu,ns,af,pr,ma,fr,mx,u))(hy:BY bo)(rest:List Int)(hb:BB n (eP (17,w,b,y,i,bo,tg,l,q,d,r,g,nu,ns,af,pr,ma,fr,mx,u)++rest)) :
    yaa.f n (eP (17,w,b,y,i,bo,tg,l,q,d,r,g,nu,ns,af,pr,ma,fr,mx,u)++rest,0,()) (hdQ 17 w b)=some ((rest,0,()),(17,w,b,y,i,bo,tg,l,q,d,r,g,nu,ns,af,pr,ma,fr,mx,u),()):=by
  have zk:y=(⟨#[]⟩:ByteArray):=ybh (yap hs.f107 (show inB (hasQ 17) 107=false by decide +kernel))
  have gi:=ybe hs.f105 (show inB (hasQ 17) 105=true by decide +kernel)
  have gB:=ybe hs.f66 (show inB (hasQ 17) 66=true by decide +kernel)
  have zt:tg=[]:=len0 (yap hs.f116 (show inB (hasQ 17) 116=false by decide +kernel))
  have zl:l=lockZ:=yeT (yap hs.f108 (show inB (hasQ 17) 108=false by decide +kernel))
  have zy:q=false:=yd4 (yap hs.f121 (show inB (hasQ 17) 121=false by decide +kernel))
  have zd:d=(0,(0,())):=defEq (yap hs.f100 (show inB (hasQ 17) 100=false by decide +kernel))
  have zr:r=[]:=len0 (yap hs.f114 (show inB (hasQ 17) 114=false by decide +kernel))
  have zg:g=[]:=len0 (yap hs.f103 (show inB (hasQ 17) 103=false by decide +kernel))
  have gn:=ybe hs.f110 (show inB (hasQ 17) 110=true by decide +kernel)
  have zN:ns=[]:=len0 (yap hs.f78 (show inB (hasQ 17) 78=false by decide +kernel))
  have za:af=(⟨#[]⟩:ByteArray):=ybh (yap hs.f97 (show inB (hasQ 17) 97=false by decide +kernel))
  have zp:pr=(⟨#[]⟩:ByteArray):=ybh (yap hs.f112 (show inB (hasQ 17) 112=false by decide +kernel))
  have zm:ma=(⟨#[]⟩:ByteArray):=ybh (yap hs.f109 (show inB (hasQ 17) 109=false by decide +kernel))
  have zf:fr=spotZ:=yeU (yap hs.f102 (show inB (hasQ 17) 102=false by decide +kernel))
  have zx:mx=0:=beq_iff_eq.1 (yap hs.f120 (show inB (hasQ 17) 120=false by decide +kernel))
  rw[eP_17]at hb ⊢
  try simp only[List.append_assoc]at hb ⊢
  rw[yaa.e0]
  simp only[yaa.e1,yaa.e2,yaa.e3,yav.e0,yaD.e0,yam.e0,yam.e1,yaZ,Int.reduceBEq,bIf_t,bIf_f,yaU,bnd_s]
  rw[(rNum hn hn2).enc _ _ hr.i hb]
  try simp only[yaU,bnd_s,bIf_t,bIf_f,Int.reduceBEq]
  replace hb:=ybD hb
  rw[(rSmall hn hn2).enc _ _ (show 0≤nu∧nu≤1099511627776 by have h2:(decide (nu≥1)&&decide (nu≤10000))=true:=gn;rw[Bool.and_eq_true,decide_eq_true_iff,decide_eq_true_iff]at h2;omega) hb]
  try simp only[yaU,bnd_s,bIf_t,bIf_f,Int.reduceBEq]
  replace hb:=ybD hb
  rw[(rBody hn hn2).enc bo _ (show okBody bo from ⟨by have h2:((bo.length:Nat):Int)≤1024:=of_decide_eq_true gB;omega,hy⟩) hb]
  try simp only[yaU,bnd_s,bIf_t,bIf_f,Int.reduceBEq]
  rw[zk,zt,zl,zy,zd,zr,zg,zN,za,zp,zm,zf,zx]
theorem qJ_enc_18 {n:Nat}(hn:300≤n)(hn2:n≤536870912)(w:ByteArray)(b:ByteArray)(y:ByteArray)(i:Int)(bo:List Int)(tg:List yak)(l:yan)(q:Bool)(d:yad)(r:List yag)(g:List yac)(nu:Int)(ns:List Int)(af:ByteArray)(pr:ByteArray)(ma:ByteArray)(fr:yaq)(mx:Int)(u:Unit)(hs:SndQ (18,w,b,y,i,bo,tg,l,q,d,r,g,nu,ns,af,pr,ma,fr,mx,u))(hr:QR (18,w,b,y,i,bo,tg,l,q,d,r,g,nu,ns,af,pr,ma,fr,mx,u))(hy:BY bo)(rest:List Int)(hb:BB n (eP (18,w,b,y,i,bo,tg,l,q,d,r,g,nu,ns,af,pr,ma,fr,mx,u)++rest)) :
    yaa.f n (eP (18,w,b,y,i,bo,tg,l,q,d,r,g,nu,ns,af,pr,ma,fr,mx,u)++rest,0,()) (hdQ 18 w b)=some ((rest,0,()),(18,w,b,y,i,bo,tg,l,q,d,r,g,nu,ns,af,pr,ma,fr,mx,u),()):=by
  have zk:y=(⟨#[]⟩:ByteArray):=ybh (yap hs.f107 (show inB (hasQ 18) 107=false by decide +kernel))
  have gi:=ybe hs.f105 (show inB (hasQ 18) 105=true by decide +kernel)
  have zB:bo=[]:=len0 (yap hs.f66 (show inB (hasQ 18) 66=false by decide +kernel))
  have zt:tg=[]:=len0 (yap hs.f116 (show inB (hasQ 18) 116=false by decide +kernel))
  have zl:l=lockZ:=yeT (yap hs.f108 (show inB (hasQ 18) 108=false by decide +kernel))
  have zy:q=false:=yd4 (yap hs.f121 (show inB (hasQ 18) 121=false by decide +kernel))
  have zd:d=(0,(0,())):=defEq (yap hs.f100 (show inB (hasQ 18) 100=false by decide +kernel))
  have zr:r=[]:=len0 (yap hs.f114 (show inB (hasQ 18) 114=false by decide +kernel))
  have zg:g=[]:=len0 (yap hs.f103 (show inB (hasQ 18) 103=false by decide +kernel))
  have zn:nu=0:=beq_iff_eq.1 (yap hs.f110 (show inB (hasQ 18) 110=false by decide +kernel))
  have gN:=ybe hs.f78 (show inB (hasQ 18) 78=true by decide +kernel)
  have za:af=(⟨#[]⟩:ByteArray):=ybh (yap hs.f97 (show inB (hasQ 18) 97=false by decide +kernel))
  have zp:pr=(⟨#[]⟩:ByteArray):=ybh (yap hs.f112 (show inB (hasQ 18) 112=false by decide +kernel))
  have zm:ma=(⟨#[]⟩:ByteArray):=ybh (yap hs.f109 (show inB (hasQ 18) 109=false by decide +kernel))
  have zf:fr=spotZ:=yeU (yap hs.f102 (show inB (hasQ 18) 102=false by decide +kernel))
  have zx:mx=0:=beq_iff_eq.1 (yap hs.f120 (show inB (hasQ 18) 120=false by decide +kernel))
  rw[eP_18]at hb ⊢
  rw[show eN i++(eW ((ns.length:Nat):Int)++ns.flatMap eI)=eN i++eNums ns from rfl]at hb ⊢
  try simp only[List.append_assoc]at hb ⊢
  rw[yaa.e0]
  simp only[yaa.e1,yaa.e2,yaa.e3,yav.e0,yaD.e0,yam.e0,yam.e1,yaZ,Int.reduceBEq,bIf_t,bIf_f,yaU,bnd_s]
  rw[(rNum hn hn2).enc _ _ hr.i hb]
  try simp only[yaU,bnd_s,bIf_t,bIf_f,Int.reduceBEq]
  replace hb:=ybD hb
  rw[(rNums hn hn2).enc _ _ (show okNums ns from ⟨by have h2:((ns.length:Nat):Int)≤16:=of_decide_eq_true gN;omega,hr.ns⟩) hb]
  try simp only[yaU,bnd_s,bIf_t,bIf_f,Int.reduceBEq]
  rw[zk,zB,zt,zl,zy,zd,zr,zg,zn,za,zp,zm,zf,zx]
theorem qJ_enc_19 {n:Nat}(hn:300≤n)(hn2:n≤536870912)(w:ByteArray)(b:ByteArray)(y:ByteArray)(i:Int)(bo:List Int)(tg:List yak)(l:yan)(q:Bool)(d:yad)(r:List yag)(g:List yac)(nu:Int)(ns:List Int)(af:ByteArray)(pr:ByteArray)(ma:ByteArray)(fr:yaq)(mx:Int)(u:Unit)(hs:SndQ (19,w,b,y,i,bo,tg,l,q,d,r,g,nu,ns,af,pr,ma,fr,mx,u))(hr:QR (19,w,b,y,i,bo,tg,l,q,d,r,g,nu,ns,af,pr,ma,fr,mx,u))(hy:BY bo)(rest:List Int)(hb:BB n (eP (19,w,b,y,i,bo,tg,l,q,d,r,g,nu,ns,af,pr,ma,fr,mx,u)++rest)) :
    yaa.f n (eP (19,w,b,y,i,bo,tg,l,q,d,r,g,nu,ns,af,pr,ma,fr,mx,u)++rest,0,()) (hdQ 19 w b)=some ((rest,0,()),(19,w,b,y,i,bo,tg,l,q,d,r,g,nu,ns,af,pr,ma,fr,mx,u),()):=by
  have zk:y=(⟨#[]⟩:ByteArray):=ybh (yap hs.f107 (show inB (hasQ 19) 107=false by decide +kernel))
  have gi:=ybe hs.f105 (show inB (hasQ 19) 105=true by decide +kernel)
  have zB:bo=[]:=len0 (yap hs.f66 (show inB (hasQ 19) 66=false by decide +kernel))
  have zt:tg=[]:=len0 (yap hs.f116 (show inB (hasQ 19) 116=false by decide +kernel))
  have zl:l=lockZ:=yeT (yap hs.f108 (show inB (hasQ 19) 108=false by decide +kernel))
  have zy:q=false:=yd4 (yap hs.f121 (show inB (hasQ 19) 121=false by decide +kernel))
  have zd:d=(0,(0,())):=defEq (yap hs.f100 (show inB (hasQ 19) 100=false by decide +kernel))
  have zr:r=[]:=len0 (yap hs.f114 (show inB (hasQ 19) 114=false by decide +kernel))
  have zg:g=[]:=len0 (yap hs.f103 (show inB (hasQ 19) 103=false by decide +kernel))
  have zn:nu=0:=beq_iff_eq.1 (yap hs.f110 (show inB (hasQ 19) 110=false by decide +kernel))
  have zN:ns=[]:=len0 (yap hs.f78 (show inB (hasQ 19) 78=false by decide +kernel))
  have za:af=(⟨#[]⟩:ByteArray):=ybh (yap hs.f97 (show inB (hasQ 19) 97=false by decide +kernel))
  have zp:pr=(⟨#[]⟩:ByteArray):=ybh (yap hs.f112 (show inB (hasQ 19) 112=false by decide +kernel))
  have zm:ma=(⟨#[]⟩:ByteArray):=ybh (yap hs.f109 (show inB (hasQ 19) 109=false by decide +kernel))
  have zf:fr=spotZ:=yeU (yap hs.f102 (show inB (hasQ 19) 102=false by decide +kernel))
  have zx:mx=0:=beq_iff_eq.1 (yap hs.f120 (show inB (hasQ 19) 120=false by decide +kernel))
  rw[eP_19]at hb ⊢
  try simp only[List.append_assoc]at hb ⊢
  rw[yaa.e0]
  simp only[yaa.e1,yaa.e2,yaa.e3,yav.e0,yaD.e0,yam.e0,yam.e1,yaZ,Int.reduceBEq,bIf_t,bIf_f,yaU,bnd_s]
  rw[(rNum hn hn2).enc _ _ hr.i hb]
  try simp only[yaU,bnd_s,bIf_t,bIf_f,Int.reduceBEq]
  rw[zk,zB,zt,zl,zy,zd,zr,zg,zn,zN,za,zp,zm,zf,zx]
theorem qJ_enc_20 {n:Nat}(hn:300≤n)(hn2:n≤536870912)(w:ByteArray)(b:ByteArray)(y:ByteArray)(i:Int)(bo:List Int)(tg:List yak)(l:yan)(q:Bool)(d:yad)(r:List yag)(g:List yac)(nu:Int)(ns:List Int)(af:ByteArray)(pr:ByteArray)(ma:ByteArray)(fr:yaq)(mx:Int)(u:Unit)(hs:SndQ (20,w,b,y,i,bo,tg,l,q,d,r,g,nu,ns,af,pr,ma,fr,mx,u))(hr:QR (20,w,b,y,i,bo,tg,l,q,d,r,g,nu,ns,af,pr,ma,fr,mx,u))(hy:BY bo)(rest:List Int)(hb:BB n (eP (20,w,b,y,i,bo,tg,l,q,d,r,g,nu,ns,af,pr,ma,fr,mx,u)++rest)) :
    yaa.f n (eP (20,w,b,y,i,bo,tg,l,q,d,r,g,nu,ns,af,pr,ma,fr,mx,u)++rest,0,()) (hdQ 20 w b)=some ((rest,0,()),(20,w,b,y,i,bo,tg,l,q,d,r,g,nu,ns,af,pr,ma,fr,mx,u),()):=by
  have gk:=ybe hs.f107 (show inB (hasQ 20) 107=true by decide +kernel)
  have zi:i=0:=beq_iff_eq.1 (yap hs.f105 (show inB (hasQ 20) 105=false by decide +kernel))
  have zB:bo=[]:=len0 (yap hs.f66 (show inB (hasQ 20) 66=false by decide +kernel))
  have zt:tg=[]:=len0 (yap hs.f116 (show inB (hasQ 20) 116=false by decide +kernel))
  have zl:l=lockZ:=yeT (yap hs.f108 (show inB (hasQ 20) 108=false by decide +kernel))
  have zy:q=false:=yd4 (yap hs.f121 (show inB (hasQ 20) 121=false by decide +kernel))
  have zd:d=(0,(0,())):=defEq (yap hs.f100 (show inB (hasQ 20) 100=false by decide +kernel))
  have zr:r=[]:=len0 (yap hs.f114 (show inB (hasQ 20) 114=false by decide +kernel))
  have zg:g=[]:=len0 (yap hs.f103 (show inB (hasQ 20) 103=false by decide +kernel))
  have zn:nu=0:=beq_iff_eq.1 (yap hs.f110 (show inB (hasQ 20) 110=false by decide +kernel))
  have zN:ns=[]:=len0 (yap hs.f78 (show inB (hasQ 20) 78=false by decide +kernel))
  have za:af=(⟨#[]⟩:ByteArray):=ybh (yap hs.f97 (show inB (hasQ 20) 97=false by decide +kernel))
  have zp:pr=(⟨#[]⟩:ByteArray):=ybh (yap hs.f112 (show inB (hasQ 20) 112=false by decide +kernel))
  have zm:ma=(⟨#[]⟩:ByteArray):=ybh (yap hs.f109 (show inB (hasQ 20) 109=false by decide +kernel))
  have gf:=ybe hs.f102 (show inB (hasQ 20) 102=true by decide +kernel)
  have zx:mx=0:=beq_iff_eq.1 (yap hs.f120 (show inB (hasQ 20) 120=false by decide +kernel))
  have g6:(ybf fr.1&&(keyB fr.2.1&&decide (fr.2.2.1≥1)))=true:=gf
  rw[Bool.and_eq_true,Bool.and_eq_true]at g6
  have g7:=bucketB_len g6.1
  have g8:=ydk g6.2.1
  rw[eP_20]at hb ⊢
  try simp only[List.append_assoc]at hb ⊢
  rw[yaa.e0]
  simp only[yaa.e1,yaa.e2,yaa.e3,yav.e0,yaD.e0,yam.e0,yam.e1,yaZ,Int.reduceBEq,bIf_t,bIf_f,yaU,bnd_s]
  rw[(rText hn hn2).enc _ _ (show y.size≤16384 by have h200:y.size≤200:=ydk gk;omega) hb]
  try simp only[yaU,bnd_s,bIf_t,bIf_f,Int.reduceBEq]
  replace hb:=ybD hb
  rw[(rText hn hn2).enc _ _ (show fr.1.size≤16384 by omega) hb]
  try simp only[yaU,bnd_s,bIf_t,bIf_f,Int.reduceBEq]
  replace hb:=ybD hb
  rw[(rText hn hn2).enc _ _ (show fr.2.1.size≤16384 by omega) hb]
  try simp only[yaU,bnd_s,bIf_t,bIf_f,Int.reduceBEq]
  replace hb:=ybD hb
  rw[(rNum hn hn2).enc _ _ hr.fi hb]
  try simp only[yaU,bnd_s,bIf_t,bIf_f,Int.reduceBEq]
  rw[zi,zB,zt,zl,zy,zd,zr,zg,zn,zN,za,zp,zm,zx]
theorem qJ_enc_21 {n:Nat}(hn:300≤n)(hn2:n≤536870912)(w:ByteArray)(b:ByteArray)(y:ByteArray)(i:Int)(bo:List Int)(tg:List yak)(l:yan)(q:Bool)(d:yad)(r:List yag)(g:List yac)(nu:Int)(ns:List Int)(af:ByteArray)(pr:ByteArray)(ma:ByteArray)(fr:yaq)(mx:Int)(u:Unit)(hs:SndQ (21,w,b,y,i,bo,tg,l,q,d,r,g,nu,ns,af,pr,ma,fr,mx,u))(hr:QR (21,w,b,y,i,bo,tg,l,q,d,r,g,nu,ns,af,pr,ma,fr,mx,u))(hy:BY bo)(rest:List Int)(hb:BB n (eP (21,w,b,y,i,bo,tg,l,q,d,r,g,nu,ns,af,pr,ma,fr,mx,u)++rest)) :
    yaa.f n (eP (21,w,b,y,i,bo,tg,l,q,d,r,g,nu,ns,af,pr,ma,fr,mx,u)++rest,0,()) (hdQ 21 w b)=some ((rest,0,()),(21,w,b,y,i,bo,tg,l,q,d,r,g,nu,ns,af,pr,ma,fr,mx,u),()):=by
  have zk:y=(⟨#[]⟩:ByteArray):=ybh (yap hs.f107 (show inB (hasQ 21) 107=false by decide +kernel))
  have zi:i=0:=beq_iff_eq.1 (yap hs.f105 (show inB (hasQ 21) 105=false by decide +kernel))
  have zB:bo=[]:=len0 (yap hs.f66 (show inB (hasQ 21) 66=false by decide +kernel))
  have zt:tg=[]:=len0 (yap hs.f116 (show inB (hasQ 21) 116=false by decide +kernel))
  have zl:l=lockZ:=yeT (yap hs.f108 (show inB (hasQ 21) 108=false by decide +kernel))
  have zy:q=false:=yd4 (yap hs.f121 (show inB (hasQ 21) 121=false by decide +kernel))
  have zd:d=(0,(0,())):=defEq (yap hs.f100 (show inB (hasQ 21) 100=false by decide +kernel))
  have zr:r=[]:=len0 (yap hs.f114 (show inB (hasQ 21) 114=false by decide +kernel))
  have zg:g=[]:=len0 (yap hs.f103 (show inB (hasQ 21) 103=false by decide +kernel))
  have zn:nu=0:=beq_iff_eq.1 (yap hs.f110 (show inB (hasQ 21) 110=false by decide +kernel))
  have zN:ns=[]:=len0 (yap hs.f78 (show inB (hasQ 21) 78=false by decide +kernel))
  have za:af=(⟨#[]⟩:ByteArray):=ybh (yap hs.f97 (show inB (hasQ 21) 97=false by decide +kernel))
  have zp:pr=(⟨#[]⟩:ByteArray):=ybh (yap hs.f112 (show inB (hasQ 21) 112=false by decide +kernel))
  have zm:ma=(⟨#[]⟩:ByteArray):=ybh (yap hs.f109 (show inB (hasQ 21) 109=false by decide +kernel))
  have zf:fr=spotZ:=yeU (yap hs.f102 (show inB (hasQ 21) 102=false by decide +kernel))
  have zx:mx=0:=beq_iff_eq.1 (yap hs.f120 (show inB (hasQ 21) 120=false by decide +kernel))
  rw[eP_21]at hb ⊢
  try simp only[List.append_assoc]at hb ⊢
  rw[yaa.e0]
  simp only[yaa.e1,yaa.e2,yaa.e3,yav.e0,yaD.e0,yam.e0,yam.e1,yaZ,Int.reduceBEq,bIf_t,bIf_f,yaU,bnd_s]
  rw[zk,zi,zB,zt,zl,zy,zd,zr,zg,zn,zN,za,zp,zm,zf,zx]
  try rfl
theorem qJ_enc_22 {n:Nat}(hn:300≤n)(hn2:n≤536870912)(w:ByteArray)(b:ByteArray)(y:ByteArray)(i:Int)(bo:List Int)(tg:List yak)(l:yan)(q:Bool)(d:yad)(r:List yag)(g:List yac)(nu:Int)(ns:List Int)(af:ByteArray)(pr:ByteArray)(ma:ByteArray)(fr:yaq)(mx:Int)(u:Unit)(hs:SndQ (22,w,b,y,i,bo,tg,l,q,d,r,g,nu,ns,af,pr,ma,fr,mx,u))(hr:QR (22,w,b,y,i,bo,tg,l,q,d,r,g,nu,ns,af,pr,ma,fr,mx,u))(hy:BY bo)(rest:List Int)(hb:BB n (eP (22,w,b,y,i,bo,tg,l,q,d,r,g,nu,ns,af,pr,ma,fr,mx,u)++rest)) :
    yaa.f n (eP (22,w,b,y,i,bo,tg,l,q,d,r,g,nu,ns,af,pr,ma,fr,mx,u)++rest,0,()) (hdQ 22 w b)=some ((rest,0,()),(22,w,b,y,i,bo,tg,l,q,d,r,g,nu,ns,af,pr,ma,fr,mx,u),()):=by
  have zk:y=(⟨#[]⟩:ByteArray):=ybh (yap hs.f107 (show inB (hasQ 22) 107=false by decide +kernel))
  have zi:i=0:=beq_iff_eq.1 (yap hs.f105 (show inB (hasQ 22) 105=false by decide +kernel))
  have zB:bo=[]:=len0 (yap hs.f66 (show inB (hasQ 22) 66=false by decide +kernel))
  have zt:tg=[]:=len0 (yap hs.f116 (show inB (hasQ 22) 116=false by decide +kernel))
  have zl:l=lockZ:=yeT (yap hs.f108 (show inB (hasQ 22) 108=false by decide +kernel))
  have zy:q=false:=yd4 (yap hs.f121 (show inB (hasQ 22) 121=false by decide +kernel))
  have zd:d=(0,(0,())):=defEq (yap hs.f100 (show inB (hasQ 22) 100=false by decide +kernel))
  have zr:r=[]:=len0 (yap hs.f114 (show inB (hasQ 22) 114=false by decide +kernel))
  have zg:g=[]:=len0 (yap hs.f103 (show inB (hasQ 22) 103=false by decide +kernel))
  have zn:nu=0:=beq_iff_eq.1 (yap hs.f110 (show inB (hasQ 22) 110=false by decide +kernel))
  have zN:ns=[]:=len0 (yap hs.f78 (show inB (hasQ 22) 78=false by decide +kernel))
  have za:af=(⟨#[]⟩:ByteArray):=ybh (yap hs.f97 (show inB (hasQ 22) 97=false by decide +kernel))
  have zp:pr=(⟨#[]⟩:ByteArray):=ybh (yap hs.f112 (show inB (hasQ 22) 112=false by decide +kernel))
  have zm:ma=(⟨#[]⟩:ByteArray):=ybh (yap hs.f109 (show inB (hasQ 22) 109=false by decide +kernel))
  have zf:fr=spotZ:=yeU (yap hs.f102 (show inB (hasQ 22) 102=false by decide +kernel))
  have zx:mx=0:=beq_iff_eq.1 (yap hs.f120 (show inB (hasQ 22) 120=false by decide +kernel))
  rw[eP_22]at hb ⊢
  try simp only[List.append_assoc]at hb ⊢
  rw[yaa.e0]
  simp only[yaa.e1,yaa.e2,yaa.e3,yav.e0,yaD.e0,yam.e0,yam.e1,yaZ,Int.reduceBEq,bIf_t,bIf_f,yaU,bnd_s]
  rw[zk,zi,zB,zt,zl,zy,zd,zr,zg,zn,zN,za,zp,zm,zf,zx]
  try rfl
end Go.Proofs.YtcpkhpboemfglaaGreatDoor

namespace Go.Proofs.YtcpkhpboemfglaaGreatDoor
open Go Go.Va Go.Proofs
theorem qJ_any {n:Nat}(hn:300≤n)(hn2:n≤536870912)(k:Int){w b:ByteArray}(hw:w.size<n)(hbk:b.size<n)(b0:List Int)(e0:Int)(hb0:BB n b0) :
    ∃ (x:Q) (b':List Int) (e':Int),yaa.f n (b0,e0,()) (hdQ k w b)=some ((b',e',()),x,())∧BB n b'∧bdQ n x:=by
  by_cases hk:1≤k∧k≤22
  · have:k=1∨k=2∨k=3∨k=4∨k=5∨k=6∨k=7∨k=8∨k=9∨k=10∨k=11∨k=12∨k=13∨k=14∨k=15∨k=16∨k=17∨k=18∨k=19∨k=20∨k=21∨k=22:=by omega
    rcases this with h | h | h | h | h | h | h | h | h | h | h | h | h | h | h | h | h | h | h | h | h | h<;>subst h
    · exact qJ_any_1 hn hn2 hw hbk b0 e0 hb0
    · exact qJ_any_2 hn hn2 hw hbk b0 e0 hb0
    · exact qJ_any_3 hn hn2 hw hbk b0 e0 hb0
    · exact qJ_any_4 hn hn2 hw hbk b0 e0 hb0
    · exact qJ_any_5 hn hn2 hw hbk b0 e0 hb0
    · exact qJ_any_6 hn hn2 hw hbk b0 e0 hb0
    · exact qJ_any_7 hn hn2 hw hbk b0 e0 hb0
    · exact qJ_any_8 hn hn2 hw hbk b0 e0 hb0
    · exact qJ_any_9 hn hn2 hw hbk b0 e0 hb0
    · exact qJ_any_10 hn hn2 hw hbk b0 e0 hb0
    · exact qJ_any_11 hn hn2 hw hbk b0 e0 hb0
    · exact qJ_any_12 hn hn2 hw hbk b0 e0 hb0
    · exact qJ_any_13 hn hn2 hw hbk b0 e0 hb0
    · exact qJ_any_14 hn hn2 hw hbk b0 e0 hb0
    · exact qJ_any_15 hn hn2 hw hbk b0 e0 hb0
    · exact qJ_any_16 hn hn2 hw hbk b0 e0 hb0
    · exact qJ_any_17 hn hn2 hw hbk b0 e0 hb0
    · exact qJ_any_18 hn hn2 hw hbk b0 e0 hb0
    · exact qJ_any_19 hn hn2 hw hbk b0 e0 hb0
    · exact qJ_any_20 hn hn2 hw hbk b0 e0 hb0
    · exact qJ_any_21 hn hn2 hw hbk b0 e0 hb0
    · exact qJ_any_22 hn hn2 hw hbk b0 e0 hb0
  · have h0:0<n:=by omega
    have c1:(k==1)=false:=by rw[beq_eq_false_iff_ne];omega
    have c2:(k==2)=false:=by rw[beq_eq_false_iff_ne];omega
    have c3:(k==3)=false:=by rw[beq_eq_false_iff_ne];omega
    have c4:(k==4)=false:=by rw[beq_eq_false_iff_ne];omega
    have c5:(k==5)=false:=by rw[beq_eq_false_iff_ne];omega
    have c6:(k==6)=false:=by rw[beq_eq_false_iff_ne];omega
    have c7:(k==7)=false:=by rw[beq_eq_false_iff_ne];omega
    have c8:(k==8)=false:=by rw[beq_eq_false_iff_ne];omega
    have c9:(k==9)=false:=by rw[beq_eq_false_iff_ne];omega
    have c10:(k==10)=false:=by rw[beq_eq_false_iff_ne];omega
    have c11:(k==11)=false:=by rw[beq_eq_false_iff_ne];omega
    have c12:(k==12)=false:=by rw[beq_eq_false_iff_ne];omega
    have c13:(k==13)=false:=by rw[beq_eq_false_iff_ne];omega
    have c14:(k==14)=false:=by rw[beq_eq_false_iff_ne];omega
    have c15:(k==15)=false:=by rw[beq_eq_false_iff_ne];omega
    have c16:(k==16)=false:=by rw[beq_eq_false_iff_ne];omega
    have c17:(k==17)=false:=by rw[beq_eq_false_iff_ne];omega
    have c18:(k==18)=false:=by rw[beq_eq_false_iff_ne];omega
    have c19:(k==19)=false:=by rw[beq_eq_false_iff_ne];omega
    have c20:(k==20)=false:=by rw[beq_eq_false_iff_ne];omega
    have c21:(k==21)=false:=by rw[beq_eq_false_iff_ne];omega
    have c22:(k==22)=false:=by rw[beq_eq_false_iff_ne];omega
    rw[yaa.e0]
    simp only[yaa.e1,yaa.e2,yaa.e3,yaZ,c1,c2,c3,c4,c5,c6,c7,c8,c9,c10,c11,c12,c13,c14,c15,c16,c17,c18,c19,c20,c21,c22,bIf_t,bIf_f]
    exact⟨_,_,_,rfl,hb0,mkQ hw hbk h0 U64_0 ⟨h0,yek⟩ ⟨h0,by intro t ht;exact nomatch ht⟩ I64_0 ⟨h0,by intro t ht;exact nomatch ht⟩ ⟨h0,by intro t ht;exact nomatch ht⟩ ⟨Nat.zero_le 16,by intro t ht;exact nomatch ht⟩ h0 h0 h0 h0 h0 U64_0 hn⟩
theorem qJ_enc {n:Nat}(hn:300≤n)(hn2:n≤536870912){e:Q}(hs:SndQ e)(hr:QR e)(hy:BY e.2.2.2.2.2.1)(rest:List Int)(hb:BB n (eP e++rest)) :
    yaa.f n (eP e++rest,0,()) (hdQ e.1 e.2.1 e.2.2.1)=some ((rest,0,()),e,()):=by
  have hk:=hs.kind
  obtain⟨k,w,b,y,i,bo,tg,l,q,d,r,g,nu,ns,af,pr,ma,fr,mx,u⟩:=e
  have:k=1∨k=2∨k=3∨k=4∨k=5∨k=6∨k=7∨k=8∨k=9∨k=10∨k=11∨k=12∨k=13∨k=14∨k=15∨k=16∨k=17∨k=18∨k=19∨k=20∨k=21∨k=22:=by
    obtain⟨h1,h2⟩:=hk
    dsimp only at h1 h2
    omega
  rcases this with h | h | h | h | h | h | h | h | h | h | h | h | h | h | h | h | h | h | h | h | h | h<;>subst h
  · exact qJ_enc_1 hn hn2 w b y i bo tg l q d r g nu ns af pr ma fr mx u hs hr hy rest hb
  · exact qJ_enc_2 hn hn2 w b y i bo tg l q d r g nu ns af pr ma fr mx u hs hr hy rest hb
  · exact qJ_enc_3 hn hn2 w b y i bo tg l q d r g nu ns af pr ma fr mx u hs hr hy rest hb
  · exact qJ_enc_4 hn hn2 w b y i bo tg l q d r g nu ns af pr ma fr mx u hs hr hy rest hb
  · exact qJ_enc_5 hn hn2 w b y i bo tg l q d r g nu ns af pr ma fr mx u hs hr hy rest hb
  · exact qJ_enc_6 hn hn2 w b y i bo tg l q d r g nu ns af pr ma fr mx u hs hr hy rest hb
  · exact qJ_enc_7 hn hn2 w b y i bo tg l q d r g nu ns af pr ma fr mx u hs hr hy rest hb
  · exact qJ_enc_8 hn hn2 w b y i bo tg l q d r g nu ns af pr ma fr mx u hs hr hy rest hb
  · exact qJ_enc_9 hn hn2 w b y i bo tg l q d r g nu ns af pr ma fr mx u hs hr hy rest hb
  · exact qJ_enc_10 hn hn2 w b y i bo tg l q d r g nu ns af pr ma fr mx u hs hr hy rest hb
  · exact qJ_enc_11 hn hn2 w b y i bo tg l q d r g nu ns af pr ma fr mx u hs hr hy rest hb
  · exact qJ_enc_12 hn hn2 w b y i bo tg l q d r g nu ns af pr ma fr mx u hs hr hy rest hb
  · exact qJ_enc_13 hn hn2 w b y i bo tg l q d r g nu ns af pr ma fr mx u hs hr hy rest hb
  · exact qJ_enc_14 hn hn2 w b y i bo tg l q d r g nu ns af pr ma fr mx u hs hr hy rest hb
  · exact qJ_enc_15 hn hn2 w b y i bo tg l q d r g nu ns af pr ma fr mx u hs hr hy rest hb
  · exact qJ_enc_16 hn hn2 w b y i bo tg l q d r g nu ns af pr ma fr mx u hs hr hy rest hb
  · exact qJ_enc_17 hn hn2 w b y i bo tg l q d r g nu ns af pr ma fr mx u hs hr hy rest hb
  · exact qJ_enc_18 hn hn2 w b y i bo tg l q d r g nu ns af pr ma fr mx u hs hr hy rest hb
  · exact qJ_enc_19 hn hn2 w b y i bo tg l q d r g nu ns af pr ma fr mx u hs hr hy rest hb
  · exact qJ_enc_20 hn hn2 w b y i bo tg l q d r g nu ns af pr ma fr mx u hs hr hy rest hb
  · exact qJ_enc_21 hn hn2 w b y i bo tg l q d r g nu ns af pr ma fr mx u hs hr hy rest hb
  · exact qJ_enc_22 hn hn2 w b y i bo tg l q d r g nu ns af pr ma fr mx u hs hr hy rest hb
abbrev zeroQ:Q:=hdQ 0 ⟨#[]⟩ ⟨#[]⟩
noncomputable def finQ (b:List Int)(x:Q)(b':List Int)(e':Int):Option (Q×Int×Unit):=
  if e'=0∧b'.length=0∧(askS x).2=0∧eqS (ya4 (askS x).1) (ya4 b)=true then some (x,0,()) else some (zeroQ,2,())
theorem askJ2 {n:Nat} (hn:300≤n) (hn2:n≤536870912) (b:List Int) (b2:Q) (r:ya7) (hd:Q) (rd:yat) {x:Q} {b':List Int} {e':Int}
    (h:yaa.f n rd hd=some ((b',e',()),x,())) (hx:bdQ n x):ya8.J2 n (b,b2,r,hd,rd,())=finQ b x b' e':=by
  obtain⟨r',h1⟩:=rEnd hn hn2 b' e'
  rw[ya8.e2]
  change (bnd (yaa.f n rd hd) _)=_
  rw[h,yaf]
  try dsimp only
  rw[h1,yaf,yaB]
  unfold finQ
  try dsimp only
  by_cases h:e'=0
  · rw[if_pos h]
    by_cases h0:b'.length=0
    · rw[if_pos h0,show ((0:Int) != 0)=false from rfl,yaA]
      change (bnd (ybM.f n x) _)=_
      rw[wire_Ask hn hn2 hx.1 hx.2.1,yaf,yaB]
      try dsimp only
      by_cases h2:(askS x).2=0
      · rw[h2,show ((0:Int) != 0)=false from rfl,yaA,ybq.e0,yaf,yaB]
        try dsimp only
        cases h3:eqS (ya4 (askS x).1) (ya4 b)
        · rw[if_neg (by rintro⟨_,_,_,h⟩;exact nomatch h),ya8.e3];rfl
        · rw[ya8.e3,Bool.not_true,yaA,ya8.e4,if_pos ⟨h,h0,rfl,rfl⟩]
      · rw[show ((askS x).2 != 0)=true by rw[bne,beq_eq_false_iff_ne.2 h2];rfl,yaR,if_neg (λhh=>h2 hh.2.2.1),ya8.e3];rfl
    · rw[if_neg h0,if_neg (λhh=>h0 hh.2.1)];rfl
  · rw[if_neg h,show (e' != 0)=true by rw[bne,beq_eq_false_iff_ne.2 h];rfl,yaR,if_neg (λhh=>h hh.1)]
theorem asked_any {n:Nat}(hn:300≤n)(hn2:n≤536870912){b:List Int}(hb:BB n b):∃ (x:Q) (b':List Int) (e':Int),ya8.f n b=finQ b x b' e'∧bdQ n x:=by
  have hlen:=hb.len
  have h0:(⟨#[]⟩:ByteArray).size<n:=by change 0<n;omega
  rw[ya8.e0,yda.e0,yeq.e0,clone_byte (by omega),yaf,yaf,yaf]
  try dsimp only
  obtain⟨k,b1,e1,h1,hb1,d1⟩:=(rSmall hn hn2).any b 0 hb
  rw[h1,yaf]
  try dsimp only
  obtain⟨w,b2,e2,h2,hb2,d2⟩:=(rText hn hn2).any b1 e1 hb1
  rw[h2,yaf,yaB,yaB]
  try dsimp only
  have key1:∀ q z,∃ (x:Q) (b':List Int) (e':Int),ya8.J1 n (b,false,z,q,hdQ k w ⟨#[]⟩,(b2,e2,()),())=finQ b x b' e'∧bdQ n x:=by
    intro q z
    obtain⟨x,b',e',h3,h4,h5⟩:=qJ_any hn hn2 k d2 h0 b2 e2 hb2
    rw[ya8.e1,yaA]
    exact⟨x,b',e',askJ2 hn hn2 b _ _ _ _ h3 h5,h5⟩
  have key2:∀ q z,∃ (x:Q) (b':List Int) (e':Int),ya8.J1 n (b,true,z,q,hdQ k w ⟨#[]⟩,(b2,e2,()),())=finQ b x b' e'∧bdQ n x:=by
    intro q z
    obtain⟨bk,b3,e3,h3,hb3,d3⟩:=(rText hn hn2).any b2 e2 hb2
    obtain⟨x,b',e',h4,h5,h6⟩:=qJ_any hn hn2 k d2 d3 b3 e3 hb3
    rw[ya8.e1,yaR,h3,yaf]
    exact⟨x,b',e',askJ2 hn hn2 b _ _ _ _ h4 h6,h6⟩
  cases (k != 21)
  · exact key1 _ _
  · cases (k != 22)
    · exact key1 _ _
    · exact key2 _ _
theorem asked_enc {n:Nat}(hn:300≤n)(hn2:n≤536870912){e:Q}(hs:SndQ e)(hx:bdQ n e){rest:List Int}(hb:BB n (encQ e++rest)):ya8.f n (encQ e++rest)=finQ (encQ e++rest) e rest 0:=by
  have hlen:=hb.len
  have hk:=hs.kind
  have hsb:=hs.b
  have hsw:=hs.w
  have hb2:=hb
  rw[ya8.e0,yda.e0,yeq.e0,clone_byte (by omega),yaf,yaf,yaf]
  try dsimp only
  have e1:encQ e++rest=eW e.1++(eT e.2.1++((if 21≤e.1 then [] else eT e.2.2.1)++(eP e++rest))):=by unfold encQ;simp only[List.append_assoc]
  rw[e1]at hb2
  have h1:=(rSmall hn hn2).enc e.1 _ ⟨by omega,by omega⟩ hb2
  rw[← e1]at h1
  rw[h1,yaf]
  try dsimp only
  replace hb2:=ybD hb2
  rw[(rText hn hn2).enc _ _ (by omega) hb2,yaf,yaB,yaB]
  try dsimp only
  replace hb2:=ybD hb2
  by_cases h21:21≤e.1
  · rw[if_pos h21]at hb2 ⊢ hsb
    rw[List.nil_append]at hb2 ⊢
    have hbb:=ybh hsb
    have h3:=qJ_enc hn hn2 hs hx.2.1 hx.2.2 rest hb2
    rw[hbb]at h3
    have key:∀ q z,ya8.J1 n (encQ e++rest,false,z,q,hdQ e.1 e.2.1 ⟨#[]⟩,(eP e++rest,0,()),())=finQ (encQ e++rest) e rest 0:=by
      intro q z
      rw[ya8.e1,yaA]
      exact askJ2 hn hn2 _ _ _ _ _ h3 hx
    by_cases h0:e.1=21
    · rw[show (e.1 != 21)=false by rw[h0];rfl,yaA];exact key _ _
    · rw[show (e.1 != 21)=true by rw[bne,beq_eq_false_iff_ne.2 h0];rfl,yaR,show (e.1 != 22)=false by rw[show e.1=22 by omega];rfl];exact key _ _
  · rw[if_neg h21]at hb2 ⊢ hsb
    have hbl:=bucketB_len hsb
    have h3:=qJ_enc hn hn2 hs hx.2.1 hx.2.2 rest (ybD hb2)
    rw[show (e.1 != 21)=true by rw[bne,beq_eq_false_iff_ne.2 (by omega)];rfl,yaR,show (e.1 != 22)=true by rw[bne,beq_eq_false_iff_ne.2 (by omega)];rfl,ya8.e1,yaR,(rText hn hn2).enc _ _ (by omega) hb2,yaf]
    exact askJ2 hn hn2 _ _ _ _ _ h3 hx
theorem askS_ok {e:Q}(h:(askS e).2=0):goodQ e=true∧(askS e).1=encQ e:=by
  unfold askS at h ⊢
  cases hg:goodQ e
  · rw[hg]at h;exact absurd (show (2:Int)=0 from h) (by decide)
  · exact⟨rfl,rfl⟩
theorem askS_no {e:Q}(h:(askS e).2≠0):goodQ e=false∧(askS e).2=2:=by
  unfold askS at h ⊢
  cases hg:goodQ e
  · exact⟨rfl,rfl⟩
  · rw[hg]at h;exact absurd rfl h
theorem BY_ite {c:Prop} [Decidable c]{a b:List Int}(ha:BY a)(hb:BY b):BY (if c then a else b):=by split<;>assumption
theorem BY_Def (d:yad):BY (eDef d):=yeV (BY_W _) (BY_W _)
theorem BY_Rules (l:List yag):BY (eRules l):=yeV (BY_W _) (BY_flat λr _=>yeV (BY_T _) (yeV (BY_Tags _) (yeV (BY_W _) (yeV (BY_W _) (BY_F _)))))
theorem BY_Grants (l:List yac):BY (eGrants l):=yeV (BY_W _) (BY_flat λr _=>yeV (BY_F _) (yeV (BY_T _) (yeV (BY_T _) (BY_T _))))
theorem BY_flI (l:List Int):BY (l.flatMap eI):=BY_flat λx _=>BY_I x
theorem BY_P (e:Q):BY (eP e):=by
  unfold eP
  repeat' with_reducible (first | exact yek | exact BY_T _ | exact BY_N _ | exact BY_W _ | exact BY_F _ | exact BY_Lock _ | exact BY_Tags _ | exact BY_Def _ | exact BY_Rules _ | exact BY_Grants _ | exact BY_flI _ | apply BY_ite | apply yeV)
theorem BY_Q (e:Q):BY (encQ e):=by
  refine yeV (BY_W _) (yeV (BY_T _) (yeV ?_ (BY_P e)))
  split
  · exact yek
  · exact BY_T _
theorem sameQ_refl (a:Q):sameQ a a=true:=by
  unfold sameQ
  rw[yb2,yb2,yb2,yc3,ydH,yb2,yb2,yb2,ydd,yb2,allB_refl _ (λx _=>sameT_refl x),allB_refl _ (λx _=>ruleRefl x),allB_refl _ (λx _=>grantRefl x),allB_refl (q:=sameI) _ (λx _=>(beq_self_eq_true x:(x==x)=true))]
  simp only[beq_self_eq_true,Bool.and_true]
theorem asked_back {n:Nat}(hn:30000≤n)(hn2:n≤536870912){e:Q}(hx:bdQ n e)(h:(askS e).2=0):ya8.f n (encQ e)=some (e,0,()):=by
  obtain⟨hg,h1⟩:=askS_ok h
  have hs:=sndQ_of hg
  have:=asked_enc (by omega) hn2 hs hx (rest:=[]) ⟨by rw[List.append_nil];have:=encQ_len hs;omega,by rw[List.append_nil];exact BY_Q e⟩
  rw[List.append_nil]at this
  rw[this]
  unfold finQ
  rw[if_pos ⟨rfl,rfl,h,by rw[h1];exact yb2 _⟩]
theorem asked_more {n:Nat}(hn:30000≤n)(hn2:n≤536870912){e:Q}(hx:bdQ n e)(h:(askS e).2=0){q:List Int}(hq:q≠[])(hb:BB n (encQ e++q)):ya8.f n (encQ e++q)=some (zeroQ,2,()):=by
  obtain⟨hg,h1⟩:=askS_ok h
  rw[asked_enc (by omega) hn2 (sndQ_of hg) hx hb]
  unfold finQ
  rw[if_neg (λhh=>hq (List.eq_nil_of_length_eq_zero hh.2.1))]
theorem asked_reads {n:Nat}(hn:30000≤n)(hn2:n≤536870912){b:List Int}(hb:BB n b):ya8.f n b=some (zeroQ,2,())∨∃ x,ya8.f n b=some (x,0,())∧bdQ n x∧(askS x).2=0∧encQ x=b:=by
  obtain⟨x,b',e',h1,h3⟩:=asked_any (by omega) hn2 hb
  rw[h1]
  unfold finQ
  by_cases h:e'=0∧b'.length=0∧(askS x).2=0∧eqS (ya4 (askS x).1) (ya4 b)=true
  · rw[if_pos h]
    have h4:=(askS_ok h.2.2.1).2
    have h5:=h.2.2.2
    rw[h4]at h5
    exact .inr ⟨x,rfl,h3,h.2.2.1,bytes_inj (BY_Q x) hb.byte h5⟩
  · rw[if_neg h];exact .inl rfl
theorem asked_cut {n:Nat}(hn:30000≤n)(hn2:n≤536870912){e:Q}(hx:bdQ n e)(h:(askS e).2=0){p q:List Int}(hpq:encQ e=p++q)(hq:q≠[]):ya8.f n p=some (zeroQ,2,()):=by
  have hbb:BB n (encQ e):=⟨by have:=encQ_len (sndQ_of (askS_ok h).1);omega,BY_Q e⟩
  have hp:BB n p:=by rw[hpq]at hbb;exact BB_left hbb
  rcases asked_reads hn hn2 hp with h1 | ⟨x,h1,h2,h3,h4⟩
  · exact h1
  · have h5:=asked_back hn hn2 hx h
    have h6:=asked_more hn hn2 h2 h3 hq (by rw[h4,← hpq];exact hbb)
    rw[h4,← hpq,h5]at h6
    have:=congrArg (λo:Option (Q×Int×Unit)=>o.map λx=>x.2.1) h6
    have h7:(0:Int)=2:=Option.some.inj this
    omega
end Go.Proofs.YtcpkhpboemfglaaGreatDoor

namespace Go.Proofs.YtcpkhpboemfglaaGreatDoor
open Go Go.Va Go.Proofs
abbrev qA:Q:=(7,(⟨#[109,101]⟩:ByteArray),(⟨#[97,98,99]⟩:ByteArray),(⟨#[107]⟩:ByteArray),0,[],[],lockZ,false,(0,(0,())),[],[],0,[],(⟨#[]⟩:ByteArray),(⟨#[]⟩:ByteArray),(⟨#[]⟩:ByteArray),spotZ,0,())
abbrev rA:ycl:=(7,(0,([],(verZ,([],(false,([],([],()))))))))
theorem qA_good:goodQ qA=true:=by decide +kernel
theorem qA_enc:encQ qA=[7,2,109,101,3,97,98,99,1,107,0]:=by decide +kernel
theorem qA_ask:askS qA=([7,2,109,101,3,97,98,99,1,107,0],0):=by
  unfold askS
  rw[qA_good,if_pos rfl,qA_enc]
theorem bdQ_small {n:Nat}(hn:300≤n){k:Int}{w b y:ByteArray}(hw:w.size<n)(hb:b.size<n)(hy:y.size<n):bdQ n (k,w,b,y,0,[],[],lockZ,false,(0,(0,())),[],[],0,[],(⟨#[]⟩:ByteArray),(⟨#[]⟩:ByteArray),(⟨#[]⟩:ByteArray),spotZ,0,()):=by
  have h0:0<n:=by omega
  exact mkQ hw hb hy U64_0 ⟨h0,yek⟩ ⟨h0,by intro t ht;exact nomatch ht⟩ I64_0 ⟨h0,by intro t ht;exact nomatch ht⟩ ⟨h0,by intro t ht;exact nomatch ht⟩ ⟨Nat.zero_le 16,by intro t ht;exact nomatch ht⟩ h0 h0 h0 h0 h0 U64_0 hn
theorem eqRow_nil {n:Nat}(h:0<n):ybF.f n [] []=some (true,()):=by
  obtain⟨m,hm⟩:∃ m,n=m+1:=⟨n-1,by omega⟩
  rw[ybF.e0,yaB,show ((((([]:List ycc).length:Nat):Int) != ((([]:List ycc).length:Nat):Int)))=false from rfl,yaA]
  have:∀ q,ybF.J1 n (q+1) ([],[],((([]:List ycc).length:Nat):Int),0,())=some (true,()):=by
    intro q
    rw[ybF.e1,yaB,decide_eq_false (by decide),yaA,ybF.e2]
  have h2:=this m
  rw[← hm]at h2
  exact h2
theorem eqStr_nil {n:Nat}(h:0<n):ybN.f n [] []=some (true,()):=by
  obtain⟨m,hm⟩:∃ m,n=m+1:=⟨n-1,by omega⟩
  rw[ybN.e0,yaB,show ((((([]:List ByteArray).length:Nat):Int) != ((([]:List ByteArray).length:Nat):Int)))=false from rfl,yaA]
  have:∀ q,ybN.J1 n (q+1) ([],[],((([]:List ByteArray).length:Nat):Int),0,())=some (true,()):=by
    intro q
    rw[ybN.e1,yaB,decide_eq_false (by decide),yaA,ybN.e2]
  have h2:=this m
  rw[← hm]at h2
  exact h2
theorem tellA {n:Nat}(hn:300≤n)(hn2:n≤536870912):yed.f n rA=some ([7],0,()):=by
  have h1:ydZ.f n rA rA=some (true,()):=by
    rw[ydZ.e0,ybq.e0,sameV40 hn2 (by change 0<n;omega),eqRow_nil (by omega),slices_Equal_int hn2 (by change 0<n;omega),eqStr_nil (by omega),sameV_refl]
    simp only[yaZ,bnd_s,yb2,beq_self_eq_true,bIf_t]
    rfl
  have h2:yea.f n rA=some (true,()):=by
    rw[yea.e0,yaB,decide_eq_false (by decide),yaA,yaB,decide_eq_false (by decide),yaA,yea.e1,yaB,show ((7:Int) != 0)=true from rfl,yaR]
    change (bnd (ydZ.f n rA rA) λu1=>some (u1.1,()))=_
    rw[h1,yaf]
  rw[yed.e0,h2,yaf,Bool.not_true,yaA,ybY.e0,yez.e0,yaf,yaf]
  try dsimp only
  rw[wW hn [] () (by have:=eW_len 7;rw[List.length_nil];omega),yaf,yaB,show ((7:Int) != 0)=true from rfl,yaR]
  try dsimp only
  rw[wOut () (by have:=eW_len 7;rw[List.length_append,List.length_nil];omega),yaf]
  exact congrArg (λx=>some (x,0,())) (show []++eW 7=[7] by decide +kernel)
theorem awakeW {n:Nat}(hn:30000≤n)(hn2:n≤536870912):yb8.f n=some (true,()):=by
  have hx:bdQ n qA:=bdQ_small (by omega) (by change 2<n;omega) (by change 3<n;omega) (by change 1<n;omega)
  have h0:(askS qA).2=0:=by rw[qA_ask]
  have hb:=asked_back hn hn2 hx h0
  have ht:=tellA (n:=n) (by omega) hn2
  rw[yb8.e0]
  change (bnd (ybM.f n qA) λu1=>bnd (ya8.f n u1.1) λu2=>bnd (yed.f n rA) _)=_
  rw[wire_Ask (by omega) hn2 hx.1 hx.2.1,yaf,qA_ask]
  dsimp only
  rw[← qA_enc,hb,yaf,ht,yaf,qA_enc]
  simp only[yaZ]
  rw[show ((0:Int)==0)=true from rfl,yaR,yaR,yaR,show eqS (ya4 [7,2,109,101,3,97,98,99,1,107,0]) ⟨#[7,2,109,101,3,97,98,99,1,107,0]⟩=true by decide +kernel,yaR,show eqS (⟨#[107]⟩:ByteArray) ⟨#[107]⟩=true by decide +kernel,yaR,show eqS (ya4 [7]) ⟨#[7]⟩=true by decide +kernel]
theorem lawAsks {n:Nat}(hn:30000≤n)(hn2:n≤536870912){r x:Q}(hr:bdQ n r):ycq.f n r x=some (true,()):=by
  rw[ycq.e0,wire_Ask (by omega) hn2 hr.1 hr.2.1,yaf,ref26_Ask (by omega) hn2 hr.1 hr.2.1,yaf,awakeW hn hn2,yaf,yaR]
  simp only[yaZ]
  rw[yb2,yaR,beq_self_eq_true,yaR,wire_Same (by omega) hn2 hr.1,yaf,ref26_Same (by omega) hn2 hr.1,yaf,beq_self_eq_true]
theorem lawAsked {n:Nat}(hn:30000≤n)(hn2:n≤536870912){r:Q}(hr:bdQ n r){b:List Int}(hb:BB n b):ybP.f n r b=some (true,()):=by
  have hz:bdQ n zeroQ:=bdQ_small (by omega) (by change 0<n;omega) (by change 0<n;omega) (by change 0<n;omega)
  have h1:ybP.J1 n (b,())=some (true,()):=by
    rw[ybP.e1]
    rcases asked_reads hn hn2 hb with h | ⟨x,h1,h2,h3,h4⟩
    · rw[h,yaf,yaB]
      dsimp only
      rw[show ((2:Int) != 0)=true from rfl,yaR,awakeW hn hn2,yaf,yaR,yaB,show ((2:Int)==2)=true from rfl,yaR]
      change (bnd (ybH.f n zeroQ zeroQ) λu3=>some (u3.1,()))=_
      rw[ref26_Same (by omega) hn2 hz.1,yaf,sameQ_refl]
    · obtain⟨hg,h5⟩:=askS_ok h3
      rw[h1,yaf,yaB]
      dsimp only
      rw[show ((0:Int) != 0)=false from rfl,yaA,ref26_Ask (by omega) hn2 h2.1 h2.2.1,yaf,awakeW hn hn2,yaf,yaR,h3,h5,h4]
      simp only[yaZ]
      rw[show ((0:Int)==0)=true from rfl,yaR,yb2,yaR,ref24_Good (by omega) hn2 h2.1,yaf,hg]
  rw[ybP.e0,ref26_Ask (by omega) hn2 hr.1 hr.2.1,yaf,yaB]
  dsimp only
  by_cases h:(askS r).2=0
  · obtain⟨hg,h5⟩:=askS_ok h
    rw[h,show ((0:Int)==0)=true from rfl,yaR,h5,ofBytes_bytesOf (BY_Q r),asked_back hn hn2 hr h,yaf,yaB]
    dsimp only
    rw[show ((0:Int) != 0)=false from rfl,yaA,ref26_Same (by omega) hn2 hr.1,yaf,sameQ_refl,Bool.not_true,yaA,h1]
  · rw[show ((askS r).2==0)=false from beq_eq_false_iff_ne.2 h,yaA,h1]
theorem lawWSpoilt {n:Nat} (hn:30000≤n) (hn2:n≤536870912) {r:Q} (hr:bdQ n r) {cut:Int} (hc:0≤cut∧cut≤65535) {more:List Int} (hm:BB (n-30000) more):ybI.f n r cut more=some (true,()):=by
  rw[ybI.e0,wire_Ask (by omega) hn2 hr.1 hr.2.1,yaf,awakeW hn hn2,yaf,Bool.not_true,yaA,ybI.e1,yaB]
  dsimp only
  by_cases h:(askS r).2=0
  · obtain⟨hg,h1⟩:=askS_ok h
    have h5:=encQ_len (sndQ_of hg)
    have hlm:=hm.len
    have hpos:1≤(encQ r).length:=by
      have:=packF_pos (k:=10) (IntKind.u64.wrap r.1).toNat (by omega)
      unfold encQ eW eN;rw[List.length_append];omega
    obtain⟨c,rfl⟩:=Int.eq_ofNat_of_zero_le hc.1
    have hmod:Int.tmod (IntKind.i64.wrap (c:Int)) (((encQ r).length:Nat):Int)=((c%(encQ r).length:Nat):Int):=by
      rw[ycn (by omega)];rfl
    have hlt:c%(encQ r).length<(encQ r).length:=Nat.mod_lt _ hpos
    rw[h,show ((0:Int) != 0)=false from rfl,yaA,ybI.e2,h1,hmod,yeG (by omega),yaP ⟨by omega,by omega⟩,yaP ⟨by omega,by omega⟩,Int.toNat_natCast,List.drop_zero,List.nil_append,yaP (by rw[List.length_nil,List.length_take];omega),
      asked_cut hn hn2 hr h (List.take_append_drop (c%(encQ r).length) (encQ r)).symm (by
        intro hh
        have:=congrArg List.length hh
        rw[List.length_drop,List.length_nil]at this;omega),yaf,yaP (by rw[List.length_nil];omega),List.nil_append,yaP (by omega)]
    simp only[yaZ]
    by_cases h0:more=[]
    · subst h0
      rw[List.append_nil,asked_back hn hn2 hr h,yaf];rfl
    · rw[asked_more hn hn2 hr h h0 ⟨by rw[List.length_append];omega,yeV (BY_Q r) hm.byte⟩,yaf,show (((more.length:Nat):Int)==0)=false by rw[beq_eq_false_iff_ne];have:=List.length_pos_iff.2 h0;omega];rfl
  · obtain⟨hg,h2⟩:=askS_no h
    rw[h2,show ((2:Int) != 0)=true from rfl,yaR,awakeW hn hn2,yaf,yaR]
    simp only[yaZ]
    rw[show ((2:Int)==2)=true from rfl,yaR,ref24_Good (by omega) hn2 hr.1,yaf,hg];rfl
end Go.Proofs.YtcpkhpboemfglaaGreatDoor

namespace Go.Proofs.YtcpkhpboemfglaaGreatDoor
open Go Go.Va Go.Proofs Go.ChangeShapes Go.WideShapes Go.ChangeAt Go.RowKit
theorem vol_Q (e:Q):vol yas e=1+(e.2.1.size+1+(e.2.2.1.size+1+(e.2.2.2.1.size+1+(1+(((e.2.2.2.2.2.1.map (vol (.int .u8))).sum+1)+(((e.2.2.2.2.2.2.1.map (vol yax)).sum+1)+(vol yaT e.2.2.2.2.2.2.2.1+(1+(vol yaC e.2.2.2.2.2.2.2.2.2.1+(((e.2.2.2.2.2.2.2.2.2.2.1.map (vol yaF)).sum+1)+(((e.2.2.2.2.2.2.2.2.2.2.2.1.map (vol yaJ)).sum+1)+(1+(((e.2.2.2.2.2.2.2.2.2.2.2.2.2.1.map (vol (.int .i64))).sum+1)+(e.2.2.2.2.2.2.2.2.2.2.2.2.2.2.1.size+1+(e.2.2.2.2.2.2.2.2.2.2.2.2.2.2.2.1.size+1+(e.2.2.2.2.2.2.2.2.2.2.2.2.2.2.2.2.1.size+1+((e.2.2.2.2.2.2.2.2.2.2.2.2.2.2.2.2.2.1.1.size+1+(e.2.2.2.2.2.2.2.2.2.2.2.2.2.2.2.2.2.1.2.1.size+1+1))+(1+0)))))))))))))))))):=rfl
theorem Wf_Q {e:Q}(hw:Wf yas e):Wf (.int .i64) e.1∧Wf .str e.2.1∧Wf .str e.2.2.1∧Wf .str e.2.2.2.1∧Wf (.int .u64) e.2.2.2.2.1∧Wf (.slice (.int .u8)) e.2.2.2.2.2.1∧Wf (.slice yax) e.2.2.2.2.2.2.1∧Wf yaT e.2.2.2.2.2.2.2.1∧Wf .bool e.2.2.2.2.2.2.2.2.1∧Wf yaC e.2.2.2.2.2.2.2.2.2.1∧Wf (.slice yaF) e.2.2.2.2.2.2.2.2.2.2.1∧Wf (.slice yaJ) e.2.2.2.2.2.2.2.2.2.2.2.1∧Wf (.int .i64) e.2.2.2.2.2.2.2.2.2.2.2.2.1∧Wf (.slice (.int .i64)) e.2.2.2.2.2.2.2.2.2.2.2.2.2.1∧Wf .str e.2.2.2.2.2.2.2.2.2.2.2.2.2.2.1∧Wf .str e.2.2.2.2.2.2.2.2.2.2.2.2.2.2.2.1∧Wf .str e.2.2.2.2.2.2.2.2.2.2.2.2.2.2.2.2.1∧Wf ya1 e.2.2.2.2.2.2.2.2.2.2.2.2.2.2.2.2.2.1∧Wf (.int .i64) e.2.2.2.2.2.2.2.2.2.2.2.2.2.2.2.2.2.2.1∧True:=hw
theorem Q_B {n:Nat}{e:Q}(hi:0≤e.2.2.2.2.1)(hf:0≤e.2.2.2.2.2.2.2.2.2.2.2.2.2.2.2.2.2.1.2.2.1)(h:vol yas e<n):QB n e:=by
  rw[vol_Q]at h
  have p0:=h
  have c_k:=Nat.lt_of_le_of_lt (Nat.le_add_right _ _) p0
  have p1:=Nat.lt_of_le_of_lt (Nat.le_add_left _ _) p0
  have c_w:=Nat.lt_of_le_of_lt (Nat.le_add_right _ _) p1
  have p2:=Nat.lt_of_le_of_lt (Nat.le_add_left _ _) p1
  have c_b:=Nat.lt_of_le_of_lt (Nat.le_add_right _ _) p2
  have p3:=Nat.lt_of_le_of_lt (Nat.le_add_left _ _) p2
  have c_y:=Nat.lt_of_le_of_lt (Nat.le_add_right _ _) p3
  have p4:=Nat.lt_of_le_of_lt (Nat.le_add_left _ _) p3
  have c_i:=Nat.lt_of_le_of_lt (Nat.le_add_right _ _) p4
  have p5:=Nat.lt_of_le_of_lt (Nat.le_add_left _ _) p4
  have c_bo:=Nat.lt_of_le_of_lt (Nat.le_add_right _ _) p5
  have p6:=Nat.lt_of_le_of_lt (Nat.le_add_left _ _) p5
  have c_tg:=Nat.lt_of_le_of_lt (Nat.le_add_right _ _) p6
  have p7:=Nat.lt_of_le_of_lt (Nat.le_add_left _ _) p6
  have c_l:=Nat.lt_of_le_of_lt (Nat.le_add_right _ _) p7
  have p8:=Nat.lt_of_le_of_lt (Nat.le_add_left _ _) p7
  have c_q:=Nat.lt_of_le_of_lt (Nat.le_add_right _ _) p8
  have p9:=Nat.lt_of_le_of_lt (Nat.le_add_left _ _) p8
  have c_d:=Nat.lt_of_le_of_lt (Nat.le_add_right _ _) p9
  have p10:=Nat.lt_of_le_of_lt (Nat.le_add_left _ _) p9
  have c_r:=Nat.lt_of_le_of_lt (Nat.le_add_right _ _) p10
  have p11:=Nat.lt_of_le_of_lt (Nat.le_add_left _ _) p10
  have c_g:=Nat.lt_of_le_of_lt (Nat.le_add_right _ _) p11
  have p12:=Nat.lt_of_le_of_lt (Nat.le_add_left _ _) p11
  have c_nu:=Nat.lt_of_le_of_lt (Nat.le_add_right _ _) p12
  have p13:=Nat.lt_of_le_of_lt (Nat.le_add_left _ _) p12
  have c_ns:=Nat.lt_of_le_of_lt (Nat.le_add_right _ _) p13
  have p14:=Nat.lt_of_le_of_lt (Nat.le_add_left _ _) p13
  have c_af:=Nat.lt_of_le_of_lt (Nat.le_add_right _ _) p14
  have p15:=Nat.lt_of_le_of_lt (Nat.le_add_left _ _) p14
  have c_pr:=Nat.lt_of_le_of_lt (Nat.le_add_right _ _) p15
  have p16:=Nat.lt_of_le_of_lt (Nat.le_add_left _ _) p15
  have c_ma:=Nat.lt_of_le_of_lt (Nat.le_add_right _ _) p16
  have p17:=Nat.lt_of_le_of_lt (Nat.le_add_left _ _) p16
  have c_fr:=Nat.lt_of_le_of_lt (Nat.le_add_right _ _) p17
  have p18:=Nat.lt_of_le_of_lt (Nat.le_add_left _ _) p17
  have c_mx:=Nat.lt_of_le_of_lt (Nat.le_add_right _ _) p18
  have p19:=Nat.lt_of_le_of_lt (Nat.le_add_left _ _) p18
  clear h p0 p1 p2 p3 p4 p5 p6 p7 p8 p9 p10 p11 p12 p13 p14 p15 p16 p17 p18 p19
  have l1:=vol_len (e:=yaF) (l:=e.2.2.2.2.2.2.2.2.2.2.1) (λx _=>by rw[vol_Rule];omega)
  have l2:=vol_len (e:=yaJ) (l:=e.2.2.2.2.2.2.2.2.2.2.2.1) (λx _=>by rw[vol_Grant];omega)
  have l3:=vol_len (e := .int .u8) (l:=e.2.2.2.2.2.1) (λx _=>Nat.le_refl 1)
  have l4:=vol_len (e := .int .i64) (l:=e.2.2.2.2.2.2.2.2.2.2.2.2.2.1) (λx _=>Nat.le_refl 1)
  have b1:=Nat.lt_of_succ_lt c_r
  have b2:=Nat.lt_of_succ_lt c_g
  exact⟨Nat.lt_of_succ_lt c_w,Nat.lt_of_succ_lt c_b,Nat.lt_of_succ_lt c_y,hi,Nat.lt_of_le_of_lt l3 (Nat.lt_of_succ_lt c_bo),Ts_of (Nat.lt_of_succ_lt c_tg),⟨Nat.lt_of_le_of_lt l1 b1,λx hx=>by
    have:=Nat.lt_of_le_of_lt (vol_mem (e:=yaF) hx) b1
    rw[vol_Rule]at this
    clear c_k c_w c_b c_y c_i c_bo c_tg c_l c_q c_d c_r c_g c_nu c_ns c_af c_pr c_ma c_fr c_mx l1 l2 l3 l4 b1 b2
    exact⟨by omega,Ts_of (by omega)⟩⟩,⟨Nat.lt_of_le_of_lt l2 b2,λx hx=>by
    have:=Nat.lt_of_le_of_lt (vol_mem (e:=yaJ) hx) b2
    rw[vol_Grant]at this
    clear c_k c_w c_b c_y c_i c_bo c_tg c_l c_q c_d c_r c_g c_nu c_ns c_af c_pr c_ma c_fr c_mx l1 l2 l3 l4 b1 b2
    exact⟨by omega,by omega,by omega⟩⟩,Nat.lt_of_le_of_lt l4 (Nat.lt_of_succ_lt c_ns),Nat.lt_of_succ_lt c_af,Nat.lt_of_succ_lt c_pr,Nat.lt_of_succ_lt c_ma,Nat.lt_of_succ_lt (Nat.lt_of_le_of_lt (Nat.le_add_right _ _) c_fr),Nat.lt_of_succ_lt (Nat.lt_of_le_of_lt (Nat.le_add_right _ _) (Nat.lt_of_le_of_lt (Nat.le_add_left _ _) c_fr)),hf⟩
theorem Q_ofW {n:Nat}{e:Q}(hw:Wf yas e)(h:vol yas e<n):bdQ n e:=by
  obtain⟨w1,w2,w3,w4,w5,w6,w7,w8,w9,w10,w11,w12,w13,w14,w15,w16,w17,w18,w19,w20⟩:=Wf_Q hw
  exact⟨Q_B (u64_of w5).1 (u64_of w18.2.2.1).1 h,⟨u64_of w5,i64_of w8.2.1,u64_of w18.2.2.1,λx hx=>i64_of (w14.2 x hx)⟩,λx hx=>u8_of (w6.2 x hx)⟩
set_option maxRecDepth 100000 in
def zQ:Array Value := #[Value.int IntKind.i64 0,Value.string ⟨#[]⟩,Value.string ⟨#[]⟩,Value.string ⟨#[]⟩,Value.int IntKind.u64 0,Value.slice none 0 0,Value.slice none 0 0,Value.int IntKind.i64 0,Value.int IntKind.i64 0,Value.bool false,Value.bool false,Value.int IntKind.i64 0,Value.int IntKind.i64 0,Value.slice none 0 0,Value.slice none 0 0,Value.int IntKind.i64 0,Value.slice none 0 0,Value.string ⟨#[]⟩,Value.string ⟨#[]⟩,Value.string ⟨#[]⟩,Value.string ⟨#[]⟩,Value.string ⟨#[]⟩,Value.int IntKind.u64 0,Value.int IntKind.i64 0]
def dQ {H:Type}:DataW H := .agg [.lit (.int .i64 0),.lit (.string []),.lit (.string []),.lit (.string []),.lit (.int .u64 0),.nil,.nil,.agg [.lit (.int .i64 0),.lit (.int .i64 0),.lit (.bool false)],.lit (.bool false),.agg [.lit (.int .i64 0),.lit (.int .i64 0)],.nil,.nil,.lit (.int .i64 0),.nil,.lit (.string []),.lit (.string []),.lit (.string []),.agg [.lit (.string []),.lit (.string []),.lit (.int .u64 0)],.lit (.int .i64 0)]
end Go.Proofs.YtcpkhpboemfglaaGreatDoor

