/-
  What the functions compute, and the plain laws.
-/
import Derived.Test.YtemhlkdingkjnaaGreatDoorF0
import Derived.Test.YtemhlkdingkjnaaGreatDoorVaTab
import Derived.Shelf.Unicode.ValidAny
import Derived.Shelf.Small.Strs
import Derived.Shelf.Strings.Split
import Derived.Shelf.Strings.SlTrimAscii
import Derived.Lib.MapLaws
set_option linter.unusedVariables false
set_option linter.unusedSimpArgs false
namespace Go.Proofs
open Go.Shelf
def Tryz.l146_ren:Go.Shelf.Ren:=⟨fun | 146=>209 | 221=>229 | 268=>242 | 138=>243 | 143=>244 | 195=>250 | 197=>246 | 218=>251 | 219=>252 | 260=>253 | 217=>237 | 225=>256 | 224=>257 | 267=>258 | 266=>249 | 314=>260 | n=>n,fun | 9=>9 | 31=>249 | 3=>3 | 4=>4 | 0=>0 | 105=>289 | 21=>21 | 5=>5 | 46=>155 | 119=>281 | 139=>284 | 138=>283 | 146=>295 | 51=>193 | n=>n,fun | 1=>2 | 3=>0 | 4=>1 | n=>n⟩
theorem Tryz.l146:Go.Proofs.Lays.n146 Tryz.prog Tryz.l146_ren:={
  mixed:=by kernel_rfl
  f138:=Tryz.func243.trans (congrArg some (by kernel_rfl))
  f143:=Tryz.func244.trans (congrArg some (by kernel_rfl))
  f146:=Tryz.func209.trans (congrArg some (by kernel_rfl))
  f195:=Tryz.func250.trans (congrArg some (by kernel_rfl))
  f197:=Tryz.func246.trans (congrArg some (by kernel_rfl))
  f217:=Tryz.func237.trans (congrArg some (by kernel_rfl))
  f218:=Tryz.func251.trans (congrArg some (by kernel_rfl))
  f219:=Tryz.func252.trans (congrArg some (by kernel_rfl))
  f221:=Tryz.func229.trans (congrArg some (by kernel_rfl))
  f224:=Tryz.func257.trans (congrArg some (by kernel_rfl))
  f225:=Tryz.func256.trans (congrArg some (by kernel_rfl))
  f260:=Tryz.func253.trans (congrArg some (by kernel_rfl))
  f266:=Tryz.func249.trans (congrArg some (by kernel_rfl))
  f267:=Tryz.func258.trans (congrArg some (by kernel_rfl))
  f268:=Tryz.func242.trans (congrArg some (by kernel_rfl))
  f314:=Tryz.func260.trans (congrArg some (by kernel_rfl))
  t0:=Tryz.underlying0
  a0:=Tryz.isAgg0
  z0:=Tryz.sizeOf0
  v0:=Tryz.zeroValue0
  t3:=Tryz.underlying3
  a3:=Tryz.isAgg3
  z3:=Tryz.sizeOf3
  v3:=Tryz.zeroValue3
  t4:=Tryz.underlying4
  a4:=Tryz.isAgg4
  z4:=Tryz.sizeOf4
  v4:=Tryz.zeroValue4
  t5:=Tryz.underlying5
  a5:=Tryz.isAgg5
  z5:=Tryz.sizeOf5
  v5:=Tryz.zeroValue5
  t9:=Tryz.underlying9
  a9:=Tryz.isAgg9
  z9:=Tryz.sizeOf9
  v9:=Tryz.zeroValue9
  t21:=Tryz.underlying21
  a21:=Tryz.isAgg21
  z21:=Tryz.sizeOf21
  v21:=Tryz.zeroValue21
  t31:=Tryz.underlying249
  a31:=Tryz.isAgg249
  z31:=Tryz.sizeOf249
  v31:=Tryz.zeroValue249
  t46:=Tryz.underlying155
  a46:=Tryz.isAgg155
  z46:=Tryz.sizeOf155
  v46:=Tryz.zeroValue155
  t51:=Tryz.underlying193
  a51:=Tryz.isAgg193
  z51:=Tryz.sizeOf193
  v51:=Tryz.zeroValue193
  t105:=Tryz.underlying289
  a105:=Tryz.isAgg289
  z105:=Tryz.sizeOf289
  v105:=Tryz.zeroValue289
  t119:=Tryz.underlying281
  a119:=Tryz.isAgg281
  z119:=Tryz.sizeOf281
  t138:=Tryz.underlying283
  a138:=Tryz.isAgg283
  z138:=Tryz.sizeOf283
  v138:=Tryz.zeroValue283
  t139:=Tryz.underlying284
  a139:=Tryz.isAgg284
  z139:=Tryz.sizeOf284
  v139:=Tryz.zeroValue284
  t146:=Tryz.underlying295
  a146:=Tryz.isAgg295
  z146:=Tryz.sizeOf295
  v146:=Tryz.zeroValue295
  g1:=by kernel_rfl
  g3:=by kernel_rfl
  g4:=by kernel_rfl }
def Tryz.l160_ren:Go.Shelf.Ren:=⟨fun | 160=>210 | 232=>231 | 231=>230 | 227=>232 | 234=>234 | 233=>233 | 236=>236 | 235=>235 | 228=>245 | 271=>248 | 151=>247 | 197=>246 | 120=>255 | 152=>254 | 260=>253 | 137=>211 | 119=>259 | 224=>257 | 225=>256 | 217=>237 | 266=>249 | n=>n,fun | 9=>9 | 4=>4 | 3=>3 | 5=>5 | 117=>274 | 116=>273 | 0=>0 | 124=>277 | 21=>21 | 105=>289 | 46=>155 | 119=>281 | 139=>284 | 138=>283 | n=>n,fun | 3=>0 | 4=>1 | n=>n⟩
theorem Tryz.l160:Go.Proofs.Lays.n160 Tryz.prog Tryz.l160_ren:={
  mixed:=by kernel_rfl
  f119:=Tryz.func259.trans (congrArg some (by kernel_rfl))
  f120:=Tryz.func255.trans (congrArg some (by kernel_rfl))
  f137:=Tryz.func211.trans (congrArg some (by kernel_rfl))
  f151:=Tryz.func247.trans (congrArg some (by kernel_rfl))
  f152:=Tryz.func254.trans (congrArg some (by kernel_rfl))
  f160:=Tryz.func210.trans (congrArg some (by kernel_rfl))
  f197:=Tryz.func246.trans (congrArg some (by kernel_rfl))
  f217:=Tryz.func237.trans (congrArg some (by kernel_rfl))
  f224:=Tryz.func257.trans (congrArg some (by kernel_rfl))
  f225:=Tryz.func256.trans (congrArg some (by kernel_rfl))
  f227:=Tryz.func232.trans (congrArg some (by kernel_rfl))
  f228:=Tryz.func245.trans (congrArg some (by kernel_rfl))
  f231:=Tryz.func230.trans (congrArg some (by kernel_rfl))
  f232:=Tryz.func231.trans (congrArg some (by kernel_rfl))
  f233:=Tryz.func233.trans (congrArg some (by kernel_rfl))
  f234:=Tryz.func234.trans (congrArg some (by kernel_rfl))
  f235:=Tryz.func235.trans (congrArg some (by kernel_rfl))
  f236:=Tryz.func236.trans (congrArg some (by kernel_rfl))
  f260:=Tryz.func253.trans (congrArg some (by kernel_rfl))
  f266:=Tryz.func249.trans (congrArg some (by kernel_rfl))
  f271:=Tryz.func248.trans (congrArg some (by kernel_rfl))
  t0:=Tryz.underlying0
  a0:=Tryz.isAgg0
  z0:=Tryz.sizeOf0
  v0:=Tryz.zeroValue0
  t3:=Tryz.underlying3
  a3:=Tryz.isAgg3
  z3:=Tryz.sizeOf3
  v3:=Tryz.zeroValue3
  t4:=Tryz.underlying4
  a4:=Tryz.isAgg4
  z4:=Tryz.sizeOf4
  v4:=Tryz.zeroValue4
  t5:=Tryz.underlying5
  a5:=Tryz.isAgg5
  z5:=Tryz.sizeOf5
  v5:=Tryz.zeroValue5
  t9:=Tryz.underlying9
  a9:=Tryz.isAgg9
  z9:=Tryz.sizeOf9
  v9:=Tryz.zeroValue9
  t21:=Tryz.underlying21
  a21:=Tryz.isAgg21
  z21:=Tryz.sizeOf21
  v21:=Tryz.zeroValue21
  t46:=Tryz.underlying155
  a46:=Tryz.isAgg155
  z46:=Tryz.sizeOf155
  v46:=Tryz.zeroValue155
  t105:=Tryz.underlying289
  a105:=Tryz.isAgg289
  z105:=Tryz.sizeOf289
  v105:=Tryz.zeroValue289
  t116:=Tryz.underlying273
  a116:=Tryz.isAgg273
  z116:=Tryz.sizeOf273
  t117:=Tryz.underlying274
  a117:=Tryz.isAgg274
  z117:=Tryz.sizeOf274
  v117:=Tryz.zeroValue274
  t119:=Tryz.underlying281
  a119:=Tryz.isAgg281
  z119:=Tryz.sizeOf281
  t124:=Tryz.underlying277
  a124:=Tryz.isAgg277
  z124:=Tryz.sizeOf277
  v124:=Tryz.zeroValue277
  t138:=Tryz.underlying283
  a138:=Tryz.isAgg283
  z138:=Tryz.sizeOf283
  v138:=Tryz.zeroValue283
  t139:=Tryz.underlying284
  a139:=Tryz.isAgg284
  z139:=Tryz.sizeOf284
  v139:=Tryz.zeroValue284
  g3:=by kernel_rfl
  g4:=by kernel_rfl }
def Tryz.l196_ren:Go.Shelf.Ren:=⟨fun | 196=>219 | 259=>238 | n=>n,fun | 9=>9 | 4=>4 | 3=>3 | 5=>5 | 12=>12 | 119=>281 | 0=>0 | 46=>155 | 139=>284 | 138=>283 | 53=>22 | n=>n,fun | 3=>0 | 4=>1 | n=>n⟩
theorem Tryz.l196:Go.Proofs.Lays.n196 Tryz.prog Tryz.l196_ren:={
  mixed:=by kernel_rfl
  f196:=Tryz.func219.trans (congrArg some (by kernel_rfl))
  f259:=Tryz.func238.trans (congrArg some (by kernel_rfl))
  t0:=Tryz.underlying0
  a0:=Tryz.isAgg0
  z0:=Tryz.sizeOf0
  v0:=Tryz.zeroValue0
  t3:=Tryz.underlying3
  a3:=Tryz.isAgg3
  z3:=Tryz.sizeOf3
  v3:=Tryz.zeroValue3
  t4:=Tryz.underlying4
  a4:=Tryz.isAgg4
  z4:=Tryz.sizeOf4
  v4:=Tryz.zeroValue4
  t5:=Tryz.underlying5
  a5:=Tryz.isAgg5
  z5:=Tryz.sizeOf5
  v5:=Tryz.zeroValue5
  t9:=Tryz.underlying9
  a9:=Tryz.isAgg9
  z9:=Tryz.sizeOf9
  v9:=Tryz.zeroValue9
  t12:=Tryz.underlying12
  a12:=Tryz.isAgg12
  z12:=Tryz.sizeOf12
  v12:=Tryz.zeroValue12
  t46:=Tryz.underlying155
  a46:=Tryz.isAgg155
  z46:=Tryz.sizeOf155
  v46:=Tryz.zeroValue155
  t53:=Tryz.underlying22
  a53:=Tryz.isAgg22
  z53:=Tryz.sizeOf22
  v53:=Tryz.zeroValue22
  t119:=Tryz.underlying281
  a119:=Tryz.isAgg281
  z119:=Tryz.sizeOf281
  t138:=Tryz.underlying283
  a138:=Tryz.isAgg283
  z138:=Tryz.sizeOf283
  v138:=Tryz.zeroValue283
  t139:=Tryz.underlying284
  a139:=Tryz.isAgg284
  z139:=Tryz.sizeOf284
  v139:=Tryz.zeroValue284
  g3:=by kernel_rfl
  g4:=by kernel_rfl }
def Tryz.l137_ren:Go.Shelf.Ren:=⟨fun | 137=>211 | 217=>237 | 266=>249 | n=>n,fun | 9=>9 | 5=>5 | 3=>3 | n=>n,fun | n=>n⟩
theorem Tryz.l137:Go.Proofs.Lays.n137 Tryz.prog Tryz.l137_ren:={
  mixed:=by kernel_rfl
  f137:=Tryz.func211.trans (congrArg some (by kernel_rfl))
  f217:=Tryz.func237.trans (congrArg some (by kernel_rfl))
  f266:=Tryz.func249.trans (congrArg some (by kernel_rfl))
  t3:=Tryz.underlying3
  a3:=Tryz.isAgg3
  z3:=Tryz.sizeOf3
  v3:=Tryz.zeroValue3
  t5:=Tryz.underlying5
  a5:=Tryz.isAgg5
  z5:=Tryz.sizeOf5
  v5:=Tryz.zeroValue5
  t9:=Tryz.underlying9
  a9:=Tryz.isAgg9
  z9:=Tryz.sizeOf9
  v9:=Tryz.zeroValue9 }
end Go.Proofs
namespace Go.Proofs.YtemhlkdingkjnaaGreatDoor
open Go Go.Va Go.Proofs
theorem acc_get:∀ (i:Nat),i<16→ydv[2*i]?=some (Value.int .u8 (Lib.accLo i))∧ydv[2*i+1]?=some (Value.int .u8 (Lib.accHi i))
  | 0,_ | 1,_ | 2,_ | 3,_ | 4,_ | 5,_ | 6,_ | 7,_ | 8,_ | 9,_ | 10,_ | 11,_ | 12,_ | 13,_ | 14,_ | 15,_=>⟨rfl,rfl⟩
  | n+16,h=>absurd h (by omega)
theorem utf8Tabs {E:Env}{w:World}(h:GlOk E w):Lib.Utf8Tabs (Tryz.l196_ren.g 3) (Tryz.l196_ren.g 4) w:=by
  obtain⟨_,c0,e0,h0⟩:=h.1 (0,λcs=>cs=firstCells) (by simp[Gl.tab])
  obtain⟨_,c1,e1,h1⟩:=h.1 (1,λcs=>cs=ydv) (by simp[Gl.tab])
  have e0:c0=firstCells:=e0
  have e1:c1=ydv:=e1
  subst e0 e1
  have h0:=h0.2
  have h1:=h1.2
  refine⟨λc hc => ?_,λi hi => ?_⟩
  · have:=h0 c (by simp[firstCells,Lib.firstTab];exact hc)
    simp[firstCells,Lib.firstTab]at this
    exact this
  · have hl:ydv.length=32:=by kernel_rfl
    have a0:=h1 (2*i) (by rw[hl];omega)
    have a1:=h1 (2*i+1) (by rw[hl];omega)
    obtain⟨e0,e1⟩:=acc_get i hi
    rw[List.getElem?_eq_getElem (by rw[hl];omega)]at e0 e1
    simp only[Option.some.injEq]at e0 e1
    simp only[Nat.zero_add]at a0 a1
    rw[e0]at a0
    rw[e1]at a1
    exact⟨a0,a1⟩
theorem maxLen_cell {E:Env}{w:World}(h:GlOk E w):∃ m,w.cell? ⟨Tryz.l146_ren.g 1,0,none⟩=some (.int .i64 m):=by
  obtain⟨_,c,⟨m,e⟩,h2⟩:=h.1 (2,λcs=>∃ m,cs=[.int .i64 m]) (by simp[Gl.tab])
  have e:c=[.int .i64 m]:=e
  subst e
  have:=h2.2 0 (by simp)
  exact⟨m,this⟩
namespace ycl
abbrev ia:List Ai:=[.dat .str]
abbrev io:List (Nat×Oi):=[(2,.dat .bool)]
noncomputable def f (s:ByteArray):Option (DOut ia io):=if s.size≤9223372036854775807 then some (Lib.validD s.data.toList,()) else none
theorem ok:FnOk Tryz.prog 219 ia io (λv=>f v.1):=by
  refine leaf_ok ⟨Tryz.f219,Tryz.func219,by kernel_rfl,by kernel_rfl⟩ rfl (λ_=>rfl) (λ_=>rfl) (λv u h E w vals hgl hc => ?_)
  obtain⟨x,vs,rfl,h1,h3⟩:=hc
  have h3:vs=[]:=h3
  subst h3
  have h1:x = .string v.1:=V_str.1 h1
  subst h1
  unfold f at h
  split at h
  · next hs=>
    injection h with h
    subst h
    refine (Any.utf8_ValidString Tryz.l196 v.1 w hs (utf8Tabs hgl)).mono ?_
    rintro e w' ⟨rfl,hb⟩
    exact⟨_,rfl,⟨hb.os,hb.tape,hb.output,hb.size,hb.block⟩,λE=>ycY.2 rfl⟩
  · exact absurd h (by simp)
noncomputable def en:Entry:=yaw 219 ia io (λv=>f v.1)
end ycl
namespace yc4
abbrev ia:List Ai:=[.dat .str,.dat (.int .u8)]
abbrev io:List (Nat×Oi):=[(4,.dat (.int .i64))]
noncomputable def f (s:ByteArray)(c:Int):Option (DOut ia io):=some (Lib.indexByte s.data.toList c.toNat.toUInt8,())
theorem ok:FnOk Tryz.prog 211 ia io (λv=>f v.1 v.2.1):=by
  refine leaf_ok ⟨Tryz.f211,Tryz.func211,by kernel_rfl,by kernel_rfl⟩ rfl (λ_=>rfl) (λ_=>rfl) (λv u h E w vals hgl hc => ?_)
  obtain⟨x,vs,rfl,h1,y,vs',rfl,h2,h3⟩:=hc
  have h3:vs'=[]:=h3
  subst h3
  have h1:x = .string v.1:=V_str.1 h1
  have h2:y = .int .u8 v.2.1:=V_int.1 h2
  subst h1 h2
  injection h with h
  subst h
  refine (Any.strings_IndexByte Tryz.l137 v.1 v.2.1 w).mono ?_
  rintro e w' ⟨rfl,rfl⟩
  exact⟨_,rfl,.refl _,λE=>V_int.2 rfl⟩
noncomputable def en:Entry:=yaw 211 ia io (λv=>f v.1 v.2.1)
end yc4
namespace ydQ
abbrev ia:List Ai:=[.dat .str,.dat .str]
abbrev io:List (Nat×Oi):=[(4,.dat .str)]
noncomputable def f (s c:ByteArray):Option (DOut ia io):=if s.size≤9223372036854775807∧c.size<4294967281∧(∀ b∈c.data.toList,b.toNat<128) then some (⟨(Lib.trimS s.data.toList c.data.toList).toArray⟩,()) else none
theorem zero116 (w:World):(zeroValue (Tryz.l160_ren.t 116)).run Tryz.prog w = .ok (.agg (Array.replicate 256 (.bool false))) w:=by
  have h:Tryz.prog.info? (Tryz.l160_ren.t 116)=some ((Tryz.prog.info? (Tryz.l160_ren.t 116)).getD default):=by kernel_rfl
  have h2:((Tryz.prog.info? (Tryz.l160_ren.t 116)).getD default).zero=some (.agg (Array.replicate 256 (.bool false))):=by kernel_rfl
  simp only[zeroValue,Sem.run_bind,Va.run_typeInfo h,Result.andThen_ok,h2,Sem.run_pure]
theorem ok:FnOk Tryz.prog 210 ia io (λv=>f v.1 v.2.1):=by
  refine leaf_ok ⟨Tryz.f210,Tryz.func210,by kernel_rfl,by kernel_rfl⟩ rfl (λ_=>rfl) (λ_=>rfl) (λv u h E w vals hgl hc => ?_)
  obtain⟨x,vs,rfl,h1,y,vs',rfl,h2,h3⟩:=hc
  have h3:vs'=[]:=h3
  subst h3
  have h1:x = .string v.1:=V_str.1 h1
  have h2:y = .string v.2.1:=V_str.1 h2
  subst h1 h2
  unfold f at h
  split at h
  · next hs=>
    injection h with h
    subst h
    refine (Any.strings_Trim_ascii Tryz.l160 zero116 (by kernel_rfl) v.1 v.2.1 w hs.1 hs.2.1 (λj b hj=>hs.2.2 b (List.mem_of_getElem? hj))).mono ?_
    rintro e w' ⟨rfl,hb⟩
    exact⟨_,rfl,⟨hb.os,hb.tape,hb.output,hb.size,hb.block⟩,λE=>V_str.2 rfl⟩
  · exact absurd h (by simp)
noncomputable def en:Entry:=yaw 210 ia io (λv=>f v.1 v.2.1)
end ydQ
namespace ydC
abbrev ia:List Ai:=[.dat .str,.dat .str]
abbrev io:List (Nat×Oi):=[(4,.val (.r 0 .str))]
noncomputable def f (s sep:ByteArray):Option (DOut ia io):=if s.size<4294967281∧1≤sep.size then some (Lib.splitB sep 0 (Lib.countB s sep) s,()) else none
theorem ok:FnOk Tryz.prog 209 ia io (λv=>f v.1 v.2.1):=by
  refine leaf_row_ok ⟨Tryz.f209,Tryz.func209,by kernel_rfl,by kernel_rfl⟩ rfl (λ_=>rfl) (λv u h E w vals hgl hc => ?_)
  obtain⟨x,vs,rfl,h1,y,vs',rfl,h2,h3⟩:=hc
  have h3:vs'=[]:=h3
  subst h3
  have h1:x = .string v.1:=V_str.1 h1
  have h2:y = .string v.2.1:=V_str.1 h2
  subst h1 h2
  unfold f at h
  split at h
  · next hs=>
    injection h with h
    subst h
    obtain⟨m,hm⟩:=maxLen_cell hgl
    refine (Any.strings_Split Tryz.l146 (by kernel_rfl) v.1 v.2.1 m w hs.1 hm hs.2).mono ?_
    rintro e w' ⟨rfl,rfl⟩
    have hl:=Lib.splitB_all v.2.1 hs.2 0 _ v.1 rfl
    refine⟨_,_,by rw[hl],rfl,λS w' => ?_⟩
    have:∀ l:List ByteArray,RdL (Rd S w' .str) l (l.map Value.string):=by
      intro l
      induction l with
      | nil=>rfl
      | cons x l ih=>exact⟨[.string x],l.map Value.string,rfl,rfl,ih⟩
    exact this _
  · exact absurd h (by simp)
noncomputable def en:Entry:=yaw 209 ia io (λv=>f v.1 v.2.1)
end ydC
end Go.Proofs.YtemhlkdingkjnaaGreatDoor
namespace Go.Proofs.YtemhlkdingkjnaaGreatDoor
open Go Go.Va Go.Proofs
noncomputable section
namespace ybh
abbrev ia:List Ai:=[.dat .str]
abbrev io:List (Nat×Oi):=[(2,.dat .bool)]
abbrev R:Type:=DOut ia io
def X (n:Nat):Ctx:=⟨⟨tab,[ycl.en],0,[]⟩,21,bnOf 0 ia⟩
abbrev g1:List Si:=[.dat 0 .str,.val 6 (.r 200600 (.int .u8)),.dat 7 (.int .i64),.dat 8 (.int .i64)]
abbrev g2:List Si:=[.dat 0 .str]
def T:CT:=(.s .o (.s (.s .o (.b (.l g1 .o))) (.r g2 .o)))
def J1 (n:Nat)(m:Nat):ByteArray×(List (Int))×Int×Int×Unit→Option R:=jL (X n) n T (yau Tryz.f181) (endK ia io) g1 [1,0,1,0] [] m
def J2 (n:Nat):ByteArray×Unit→Option R:=jR (X n) n T (yau Tryz.f181) (endK ia io) g2 [1,1] []
def f (n:Nat)(s_:ByteArray):Option R:=fRun (X n) n T Tryz.f181 ia io (s_,())
theorem e0 (n:Nat)(s_:ByteArray):f n s_=J1 n n (s_,(ycW s_),(((ycW s_).length:Nat):Int),0,()):=(yac _).trans (by kernel_rfl)
theorem e1 (n m:Nat)(s_:ByteArray)(t6:List (Int))(t7:Int)(t8:Int):J1 n (m+1) (s_,t6,t7,t8,())=bIf ((hide (decide (t8<t7)))) (gIf (0≤t8∧t8<((t6.length:Nat):Int)) (bIf ((hide (decide ((List.getD t6 (0+t8.toNat) 0)<(32:Int))))) (some (false,())) (bIf ((hide ((List.getD t6 (0+t8.toNat) 0)==(127:Int)))) (some (false,())) (J1 n m (s_,t6,t7,(IntKind.i64.wrap (t8+(1:Int))),()))))) (J2 n (s_,())):=(yac _).trans (by kernel_rfl)
theorem e2 (n:Nat)(s_:ByteArray):J2 n (s_,())=bnd (ycl.f s_) λu1=>some (u1.1,()):=(yac _).trans (by kernel_rfl)
theorem ok (n:Nat):FnOk Tryz.prog 181 ia io (fRun (X n) n T Tryz.f181 ia io):=yaA mixed tabIs (yaj (yai (ycl.ok)) (yas)) Tryz.func181 (by kernel_rfl) rfl
def en (n:Nat):Entry:=yaw 181 ia io (fRun (X n) n T Tryz.f181 ia io)
end ybh
namespace yat
abbrev ia:List Ai:=[.dat .str]
abbrev io:List (Nat×Oi):=[(2,.dat .bool)]
abbrev R:Type:=DOut ia io
def X (n:Nat):Ctx:=⟨⟨tab,[],0,[]⟩,109,bnOf 0 ia⟩
abbrev g1:List Si:=[.dat 0 .str,.dat 3 (.int .i64)]
abbrev g2:List Si:=[.dat 0 .str,.dat 3 (.int .i64),.dat 4 (.int .i64),.dat 21 .bool]
abbrev g3:List Si:=[.dat 0 .str,.dat 3 (.int .i64),.dat 4 (.int .i64),.dat 30 .bool]
abbrev g4:List Si:=[.dat 0 .str,.dat 3 (.int .i64),.dat 4 (.int .i64),.dat 39 .bool]
abbrev g5:List Si:=[.dat 0 .str,.dat 3 (.int .i64),.dat 4 (.int .i64),.dat 5 (.int .i64),.dat 6 (.int .i64),.dat 7 (.int .i64)]
abbrev g6:List Si:=[.dat 0 .str,.dat 3 (.int .i64),.dat 5 (.int .i64),.dat 6 (.int .i64),.dat 7 (.int .i64)]
abbrev g7:List Si:=[.dat 0 .str,.dat 3 (.int .i64),.dat 5 (.int .i64),.dat 6 (.int .i64),.dat 7 (.int .i64),.dat 8 (.int .i64)]
abbrev g8:List Si:=[.dat 0 .str,.dat 3 (.int .i64),.dat 5 (.int .i64),.dat 6 (.int .i64),.dat 7 (.int .i64),.dat 8 (.int .i64)]
abbrev g9:List Si:=[.dat 0 .str,.dat 3 (.int .i64),.dat 5 (.int .i64),.dat 6 (.int .i64),.dat 7 (.int .i64),.dat 8 (.int .i64)]
abbrev g10:List Si:=[.dat 0 .str,.dat 3 (.int .i64),.dat 5 (.int .i64),.dat 6 (.int .i64),.dat 7 (.int .i64)]
abbrev g11:List Si:=[.dat 0 .str,.dat 3 (.int .i64),.dat 5 (.int .i64)]
abbrev g12:List Si:=[]
def T:CT:=(.s .o (.s (.s .o (.b (.l g1 (.s .o (.b (.s .o (.s .o (.s (.b (.s .o (.c .o (.s .o (.r g2 (.c .o (.s .o (.r g3 (.c .o (.s .o (.r g4 .o))))))))))) (.r g5 (.s .o (.r g6 (.s (.s .o (.b (.l g7 (.s .o (.s (.b (.s .o (.r g8 .o))) (.r g9 .o)))))) (.r g10 (.s .o (.r g11 .o))))))))))))))) (.r g12 .o)))
def J1 (n:Nat)(m:Nat):ByteArray×Int×Unit→Option R:=jL (X n) n T (yau Tryz.f84) (endK ia io) g1 [1,0,1,0] [] m
def J2 (n m1:Nat):ByteArray×Int×Int×Bool×Unit→Option R:=jR (X n) n T (yau Tryz.f84) (endK ia io) g2 [1,0,1,0,0,1,0,1,1,0,0,1,1,1] [m1]
def J3 (n m1:Nat):ByteArray×Int×Int×Bool×Unit→Option R:=jR (X n) n T (yau Tryz.f84) (endK ia io) g3 [1,0,1,0,0,1,0,1,1,0,0,1,1,1,1,1] [m1]
def J4 (n m1:Nat):ByteArray×Int×Int×Bool×Unit→Option R:=jR (X n) n T (yau Tryz.f84) (endK ia io) g4 [1,0,1,0,0,1,0,1,1,0,0,1,1,1,1,1,1,1] [m1]
def J5 (n m1:Nat):ByteArray×Int×Int×Int×Int×Int×Unit→Option R:=jR (X n) n T (yau Tryz.f84) (endK ia io) g5 [1,0,1,0,0,1,0,1,1,1] [m1]
def J6 (n m1:Nat):ByteArray×Int×Int×Int×Int×Unit→Option R:=jR (X n) n T (yau Tryz.f84) (endK ia io) g6 [1,0,1,0,0,1,0,1,1,1,1] [m1]
def J7 (n m1:Nat)(m:Nat):ByteArray×Int×Int×Int×Int×Int×Unit→Option R:=jL (X n) n T (yau Tryz.f84) (endK ia io) g7 [1,0,1,0,0,1,0,1,1,1,1,0,1,0] [m1] m
def J8 (n m1 m7:Nat):ByteArray×Int×Int×Int×Int×Int×Unit→Option R:=jR (X n) n T (yau Tryz.f84) (endK ia io) g8 [1,0,1,0,0,1,0,1,1,1,1,0,1,0,0,1,0,0,1] [m1,m7]
def J9 (n m1 m7:Nat):ByteArray×Int×Int×Int×Int×Int×Unit→Option R:=jR (X n) n T (yau Tryz.f84) (endK ia io) g9 [1,0,1,0,0,1,0,1,1,1,1,0,1,0,0,1,1] [m1,m7]
def J10 (n m1:Nat):ByteArray×Int×Int×Int×Int×Unit→Option R:=jR (X n) n T (yau Tryz.f84) (endK ia io) g10 [1,0,1,0,0,1,0,1,1,1,1,1] [m1]
def J11 (n m1:Nat):ByteArray×Int×Int×Unit→Option R:=jR (X n) n T (yau Tryz.f84) (endK ia io) g11 [1,0,1,0,0,1,0,1,1,1,1,1,1] [m1]
def J12 (n:Nat):Unit→Option R:=jR (X n) n T (yau Tryz.f84) (endK ia io) g12 [1,1] []
def f (n:Nat)(s_:ByteArray):Option R:=fRun (X n) n T Tryz.f84 ia io (s_,())
theorem e0 (n:Nat)(s_:ByteArray):f n s_=J1 n n (s_,0,()):=(yac _).trans (by kernel_rfl)
theorem e1 (n m:Nat)(s_:ByteArray)(at_:Int):J1 n (m+1) (s_,at_,())=bIf ((hide (decide (at_<(s_.size:Int))))) (gIf (0≤at_∧at_<(s_.size:Int)) (bIf ((hide (decide ((IntKind.i64.wrap (bt s_ at_))<(128:Int))))) (J5 n m (s_,at_,(IntKind.i64.wrap (bt s_ at_)),1,(IntKind.i64.wrap (bt s_ at_)),0,())) (bIf ((hide (decide ((IntKind.i64.wrap (bt s_ at_))≥(192:Int))))) (J2 n m (s_,at_,(IntKind.i64.wrap (bt s_ at_)),(hide (decide ((IntKind.i64.wrap (bt s_ at_))<(224:Int)))),())) (J2 n m (s_,at_,(IntKind.i64.wrap (bt s_ at_)),false,()))))) (J12 n (())):=(yac _).trans (by kernel_rfl)
theorem e2 (n m1:Nat)(s_:ByteArray)(at_:Int)(b:Int)(t21:Bool):J2 n m1 (s_,at_,b,t21,())=bIf (t21) (J5 n m1 (s_,at_,b,2,(IntKind.i64.wrap (b-(192:Int))),128,())) (bIf ((hide (decide (b≥(224:Int))))) (J3 n m1 (s_,at_,b,(hide (decide (b<(240:Int)))),())) (J3 n m1 (s_,at_,b,false,()))):=(yac _).trans (by kernel_rfl)
theorem e3 (n m1:Nat)(s_:ByteArray)(at_:Int)(b:Int)(t30:Bool):J3 n m1 (s_,at_,b,t30,())=bIf (t30) (J5 n m1 (s_,at_,b,3,(IntKind.i64.wrap (b-(224:Int))),2048,())) (bIf ((hide (decide (b≥(240:Int))))) (J4 n m1 (s_,at_,b,(hide (decide (b<(248:Int)))),())) (J4 n m1 (s_,at_,b,false,()))):=(yac _).trans (by kernel_rfl)
theorem e4 (n m1:Nat)(s_:ByteArray)(at_:Int)(b:Int)(t39:Bool):J4 n m1 (s_,at_,b,t39,())=bIf (t39) (J5 n m1 (s_,at_,b,4,(IntKind.i64.wrap (b-(240:Int))),65536,())) (some (false,())):=(yac _).trans (by kernel_rfl)
theorem e5 (n m1:Nat)(s_:ByteArray)(at_:Int)(b:Int)(n_:Int)(r:Int)(least:Int):J5 n m1 (s_,at_,b,n_,r,least,())=bIf ((hide (decide (b<(32:Int))))) (some (false,())) (bIf ((hide (b==(127:Int)))) (some (false,())) (J6 n m1 (s_,at_,n_,r,least,()))):=(yac _).trans (by kernel_rfl)
theorem e6 (n m1:Nat)(s_:ByteArray)(at_:Int)(n_:Int)(r:Int)(least:Int):J6 n m1 (s_,at_,n_,r,least,())=J7 n m1 n (s_,at_,n_,r,least,1,()):=(yac _).trans (by kernel_rfl)
theorem e7 (n m1 m:Nat)(s_:ByteArray)(at_:Int)(n_:Int)(r:Int)(least:Int)(i:Int):J7 n m1 (m+1) (s_,at_,n_,r,least,i,())=bIf ((hide (decide (i<n_)))) (bIf ((hide (decide ((IntKind.i64.wrap (at_+i))≥(s_.size:Int))))) (some (false,())) (gIf (0≤(IntKind.i64.wrap (at_+i))∧(IntKind.i64.wrap (at_+i))<(s_.size:Int)) (bIf ((hide (decide ((bt s_ (IntKind.i64.wrap (at_+i)))<(128:Int))))) (some (false,())) (gIf (0≤(IntKind.i64.wrap (at_+i))∧(IntKind.i64.wrap (at_+i))<(s_.size:Int)) (bIf ((hide (decide ((bt s_ (IntKind.i64.wrap (at_+i)))≥(192:Int))))) (some (false,())) (J8 n m1 m (s_,at_,n_,r,least,i,()))))))) (J10 n m1 (s_,at_,n_,r,least,())):=(yac _).trans (by kernel_rfl)
theorem e8 (n m1 m7:Nat)(s_:ByteArray)(at_:Int)(n_:Int)(r:Int)(least:Int)(i:Int):J8 n m1 m7 (s_,at_,n_,r,least,i,())=gIf (0≤(IntKind.i64.wrap (at_+i))∧(IntKind.i64.wrap (at_+i))<(s_.size:Int)) (J9 n m1 m7 (s_,at_,n_,(IntKind.i64.wrap ((IntKind.i64.wrap ((IntKind.i64.wrap (r*(64:Int)))+(IntKind.i64.wrap (bt s_ (IntKind.i64.wrap (at_+i))))))-(128:Int))),least,i,())):=(yac _).trans (by kernel_rfl)
theorem e9 (n m1 m7:Nat)(s_:ByteArray)(at_:Int)(n_:Int)(r:Int)(least:Int)(i:Int):J9 n m1 m7 (s_,at_,n_,r,least,i,())=J7 n m1 m7 (s_,at_,n_,r,least,(IntKind.i64.wrap (i+(1:Int))),()):=(yac _).trans (by kernel_rfl)
theorem e10 (n m1:Nat)(s_:ByteArray)(at_:Int)(n_:Int)(r:Int)(least:Int):J10 n m1 (s_,at_,n_,r,least,())=bIf ((hide (decide (r<least)))) (some (false,())) (bIf ((hide (decide (r>(1114111:Int))))) (some (false,())) (bIf ((hide (decide (r≥(55296:Int))))) (bIf ((hide (decide (r≤(57343:Int))))) (some (false,())) (J11 n m1 (s_,at_,n_,()))) (J11 n m1 (s_,at_,n_,())))):=(yac _).trans (by kernel_rfl)
theorem e11 (n m1:Nat)(s_:ByteArray)(at_:Int)(n_:Int):J11 n m1 (s_,at_,n_,())=J1 n m1 (s_,(IntKind.i64.wrap (at_+n_)),()):=(yac _).trans (by kernel_rfl)
theorem e12 (n:Nat):J12 n (())=some (true,()):=(yac _).trans (by kernel_rfl)
theorem ok (n:Nat):FnOk Tryz.prog 84 ia io (fRun (X n) n T Tryz.f84 ia io):=yaA mixed tabIs (yas) Tryz.func84 (by kernel_rfl) rfl
def en (n:Nat):Entry:=yaw 84 ia io (fRun (X n) n T Tryz.f84 ia io)
end yat
end
end Go.Proofs.YtemhlkdingkjnaaGreatDoor
namespace Go.Proofs.YtemhlkdingkjnaaGreatDoor
open Go Go.Va Go.Proofs
def ok32 (b:UInt8):Bool:=decide (32≤b.toNat)&&decide (b.toNat≠127)
def cleanB (s:ByteArray):Bool:=s.data.toList.all ok32&&Lib.validD s.data.toList
theorem bnd_some {α β:Type}(a:α)(f:α→Option β):bnd (some a) f=f a:=rfl
theorem all_drop (l:List UInt8)(k:Nat)(h:k<l.length):(l.drop k).all ok32=(ok32 (l.getD k 0)&&(l.drop (k+1)).all ok32):=by
  rw[List.drop_eq_getElem_cons h,List.all_cons,List.getD_eq_getElem?_getD,List.getElem?_eq_getElem h]
  rfl
theorem ok32_hi {b:UInt8}(h:128≤b.toNat):ok32 b=true:=by
  unfold ok32;rw[decide_eq_true (by omega),decide_eq_true (by omega)];rfl
theorem getD_dropA (l:List UInt8)(k i:Nat):(l.drop k).getD i 0=l.getD (k+i) 0:=by
  rw[List.getD_eq_getElem?_getD,List.getD_eq_getElem?_getD,List.getElem?_drop]
theorem bt_nat (s:ByteArray)(k:Nat):bt s (k:Int)=((s.data.toList.getD k 0).toNat:Int):=rfl
theorem clean42_J (n:Nat) (s:ByteArray) (hs:s.size≤1073741824):∀ (m k:Nat),k≤s.size→s.size-k<m →
    ybh.J1 n m (s,ycW s,(((ycW s).length:Nat):Int),(k:Int),())=some ((s.data.toList.drop k).all ok32&&Lib.validD s.data.toList,())
  | 0,k,_,h=>by omega
  | m + 1,k,hk,h=>by
    have hsz:=size_eq s
    have hl:=size_of s
    rw[ybh.e1]
    simp only[yaN,ycN,ycM,Nat.zero_add]
    by_cases hlt:k<s.size
    · rw[if_pos (decide_eq_true (by omega)),if_pos ⟨by omega,by omega⟩,all_drop _ _ (by omega),ybn (by omega)]
      have hb:(ycW s).getD (k:Int).toNat 0=((s.data.toList.getD k 0).toNat:Int):=by rw[← bt_getD];rfl
      rw[hb]
      have ih:=clean42_J n s hs m (k+1) (by omega) (by omega)
      rw[show (((k+1:Nat):Int))=(k:Int)+1 by omega]at ih
      rw[ih]
      generalize s.data.toList.getD k 0=b
      unfold ok32
      by_cases h1:b.toNat<32
      · rw[if_pos (decide_eq_true (by omega)),decide_eq_false (by omega)];rfl
      · rw[if_neg (by simp;omega),decide_eq_true (by omega)]
        by_cases h2:b.toNat=127
        · rw[if_pos (by rw[beq_iff_eq];omega),decide_eq_false (by omega)];rfl
        · rw[if_neg (by rw[beq_iff_eq];omega),decide_eq_true (by omega)];simp
    · rw[if_neg (by simp;omega)]
      have hkk:k=s.size:=by omega
      subst hkk
      rw[hsz,List.drop_length]
      rw[ybh.e2]
      unfold ycl.f
      rw[if_pos (by omega),bnd_some]
      rfl
theorem clean42 {n:Nat}{s:ByteArray}(hs:s.size≤1073741824)(hn:s.size<n):ybh.f n s=some (cleanB s,()):=by
  rw[ybh.e0]
  change ybh.J1 n n (s,ycW s,(((ycW s).length:Nat):Int),((0:Nat):Int),())=_
  rw[clean42_J n s hs n 0 (by omega) (by omega)]
  rfl
theorem step7 (n m:Nat) (r1:Nat) (s:ByteArray) (hs:s.size≤1073741824) (k:Nat) (hk:k≤s.size) (w:Nat) (hw:w≤4) (r:Nat) (hr:r<1048576) (least:Int) (i:Nat) (hi:i<w) :
    yat.J7 n r1 (m+1) (s,(k:Int),(w:Int),(r:Int),least,(i:Int),()) =
      if k+i<s.size then
        if (s.data.toList.getD (k+i) 0).toNat/64=2 then yat.J7 n r1 m (s,(k:Int),(w:Int),((r*64+(s.data.toList.getD (k+i) 0).toNat%64:Nat):Int),least,((i+1:Nat):Int),())
        else some (false,())
      else some (false,()):=by
  rw[yat.e7]
  simp only[yaN,ycN,ycM]
  rw[if_pos (decide_eq_true (by omega)),ybn (x:=(k:Int)+(i:Int)) (by omega)]
  rw[show ((k:Int)+(i:Int))=((k+i:Nat):Int) by omega,bt_nat]
  have hb:=(s.data.toList.getD (k+i) 0).toNat_lt
  generalize hB:(s.data.toList.getD (k+i) 0).toNat=b at hb ⊢
  by_cases h1:k+i<s.size
  · rw[if_neg (by simp;omega),if_pos ⟨by omega,by omega⟩,if_pos h1]
    by_cases h2:b/64=2
    · rw[if_neg (by simp;omega),if_pos ⟨by omega,by omega⟩,if_neg (by simp;omega),if_pos h2,yat.e8]
      simp only[ycM]
      rw[ybn (x:=(k:Int)+(i:Int)) (by omega),show ((k:Int)+(i:Int))=((k+i:Nat):Int) by omega,bt_nat,hB,if_pos ⟨by omega,by omega⟩,yat.e9]
      rw[ybn (x:=(i:Int)+1) (by omega),ybn (x:=(r:Int)*64) (by omega),ybn (x:=(b:Int)) (by omega),ybn (x:=(r:Int)*64+(b:Int)) (by omega),ybn (by omega)]
      rw[show ((r:Int)*64+(b:Int)-128)=((r*64+b%64:Nat):Int) by omega]
      rfl
    · rw[if_neg h2]
      by_cases h3:b<128
      · rw[if_pos (decide_eq_true (by omega))]
      · rw[if_neg (by simp;omega),if_pos ⟨by omega,by omega⟩,if_pos (decide_eq_true (by omega))]
  · rw[if_pos (decide_eq_true (by omega)),if_neg h1]
theorem end7 (n m:Nat) (r1:Nat) (s:ByteArray) (hs:s.size≤1073741824) (k:Nat) (hk:k≤s.size) (w:Nat) (hw:w≤4) (r:Nat) (least:Nat) :
    yat.J7 n r1 (m+1) (s,(k:Int),(w:Int),(r:Int),(least:Int),(w:Int),()) =
      if least≤r∧r≤1114111∧¬ (55296≤r∧r≤57343) then yat.J1 n r1 (s,((k+w:Nat):Int),()) else some (false,()):=by
  rw[yat.e7]
  simp only[yaN,ycN,ycM]
  rw[if_neg (by simp),yat.e10]
  simp only[yaN,ycN,ycM]
  have e:yat.J11 n r1 (s,(k:Int),(w:Int),())=yat.J1 n r1 (s,((k+w:Nat):Int),()):=by
    rw[yat.e11]
    rw[ybn (by omega)];congr 2
  rw[e]
  by_cases h1:r<least
  · rw[if_pos (decide_eq_true (by omega)),if_neg (by omega)]
  · rw[if_neg (by simp;omega)]
    by_cases h2:1114111<r
    · rw[if_pos (decide_eq_true (by omega)),if_neg (by omega)]
    · rw[if_neg (by simp;omega)]
      by_cases h3:55296≤r
      · rw[if_pos (decide_eq_true (by omega))]
        by_cases h4:r≤57343
        · rw[if_pos (decide_eq_true (by omega)),if_neg (by omega)]
        · rw[if_neg (by simp;omega),if_pos (by omega)]
      · rw[if_neg (by simp;omega),if_pos (by omega)]
theorem sign44 (q:Nat)(r1:Nat)(s:ByteArray)(hs:s.size≤1073741824)(k:Nat)(hk:k<s.size)(b:Nat)(w:Nat)(hw:1≤w∧w≤4)(r:Nat)(hr:r<128)(least:Nat) :
    yat.J5 (q+5) r1 (s,(k:Int),(b:Int),(w:Int),(r:Int),(least:Int),())=if 32≤b∧b≠127 then yat.J7 (q+5) r1 (q+4+1) (s,(k:Int),(w:Int),(r:Int),(least:Int),((1:Nat):Int),()) else some (false,()):=by
  rw[yat.e5]
  simp only[yaN,ycN,ycM]
  by_cases h1:b<32
  · rw[if_pos (decide_eq_true (by omega)),if_neg (by omega)]
  · rw[if_neg (by simp;omega)]
    by_cases h2:b=127
    · rw[if_pos (by rw[beq_iff_eq];omega),if_neg (by omega)]
    · rw[if_neg (by rw[beq_iff_eq];omega),if_pos (by omega)]
      rw[yat.e6];rfl
theorem round44 (n m:Nat) (s:ByteArray) (hs:s.size≤1073741824) (k:Nat) (hk:k<s.size) (b:Nat) (hb:(s.data.toList.getD k 0).toNat=b) :
    yat.J1 n (m+1) (s,(k:Int),()) =
      if b<128 then yat.J5 n m (s,(k:Int),(b:Int),((1:Nat):Int),(b:Int),((0:Nat):Int),())
      else if 192≤b∧b<224 then yat.J5 n m (s,(k:Int),(b:Int),((2:Nat):Int),((b-192:Nat):Int),((128:Nat):Int),())
      else if 224≤b∧b<240 then yat.J5 n m (s,(k:Int),(b:Int),((3:Nat):Int),((b-224:Nat):Int),((2048:Nat):Int),())
      else if 240≤b∧b<248 then yat.J5 n m (s,(k:Int),(b:Int),((4:Nat):Int),((b-240:Nat):Int),((65536:Nat):Int),())
      else some (false,()):=by
  have hb2:=(s.data.toList.getD k 0).toNat_lt
  rw[yat.e1]
  simp only[yaN,ycN,ycM]
  rw[bt_nat,hb,ybn (by omega),if_pos (decide_eq_true (by omega)),if_pos ⟨by omega,by omega⟩]
  by_cases h1:b<128
  · rw[if_pos (decide_eq_true (by omega)),if_pos h1];rfl
  · rw[if_neg (by simp;omega),if_neg h1]
    have hS2:∀ t:Bool,yat.J2 n m (s,(k:Int),(b:Int),t,())=if t=true then yat.J5 n m (s,(k:Int),(b:Int),2,(IntKind.i64.wrap ((b:Int)-192)),128,()) else if decide ((b:Int)≥224)=true then yat.J3 n m (s,(k:Int),(b:Int),decide ((b:Int)<240),()) else yat.J3 n m (s,(k:Int),(b:Int),false,()):=by
      intro t;rw[yat.e2];simp only[yaN,ycN,ycM]
    have hS3:∀ t:Bool,yat.J3 n m (s,(k:Int),(b:Int),t,())=if t=true then yat.J5 n m (s,(k:Int),(b:Int),3,(IntKind.i64.wrap ((b:Int)-224)),2048,()) else if decide ((b:Int)≥240)=true then yat.J4 n m (s,(k:Int),(b:Int),decide ((b:Int)<248),()) else yat.J4 n m (s,(k:Int),(b:Int),false,()):=by
      intro t;rw[yat.e3];simp only[yaN,ycN,ycM]
    have hS4:∀ t:Bool,yat.J4 n m (s,(k:Int),(b:Int),t,())=if t=true then yat.J5 n m (s,(k:Int),(b:Int),4,(IntKind.i64.wrap ((b:Int)-240)),65536,()) else some (false,()):=by
      intro t;rw[yat.e4];simp only[yaN,ycN,ycM]
    simp only[hS2,hS3,hS4]
    by_cases h2:192≤b∧b<224
    · rw[if_pos (decide_eq_true (by omega)),if_pos (decide_eq_true (by omega)),if_pos h2,ybn (by omega),show ((b:Int)-192)=((b-192:Nat):Int) by omega];rfl
    · rw[if_neg h2]
      by_cases h3:224≤b∧b<240
      · rw[if_pos (decide_eq_true (by omega)),if_neg (by simp;omega),if_pos (decide_eq_true (by omega)),if_pos (decide_eq_true (by omega)),if_pos h3,ybn (x:=(b:Int)-224) (by omega),show ((b:Int)-224)=((b-224:Nat):Int) by omega];rfl
      · rw[if_neg h3]
        by_cases h4:240≤b∧b<248
        · rw[if_pos (decide_eq_true (by omega)),if_neg (by simp;omega),if_pos (decide_eq_true (by omega)),if_neg (by simp;omega),if_pos (decide_eq_true (by omega)),if_pos (decide_eq_true (by omega)),if_pos h4,ybn (x:=(b:Int)-240) (by omega),show ((b:Int)-240)=((b-240:Nat):Int) by omega];rfl
        · rw[if_neg h4]
          split<;>(simp only[decide_eq_true_eq,Bool.false_eq_true,if_false,ge_iff_le];repeat' split)<;>first | rfl | (exfalso;simp_all;omega) | (exfalso;omega)
theorem clean44_J (q:Nat) (s:ByteArray) (hs:s.size≤1073741824):∀ (m k:Nat),k≤s.size→s.size-k<m →
    yat.J1 (q+5) m (s,(k:Int),())=some ((s.data.toList.drop k).all ok32&&Lib.validD (s.data.toList.drop k),())
  | 0,k,_,h=>by omega
  | m + 1, k, hk, h => by
    have hsz:=size_eq s
    by_cases hlt:k<s.size
    · obtain⟨b,hb⟩:∃ b,(s.data.toList.getD k 0).toNat=b:=⟨_,rfl⟩
      have hb0:=(s.data.toList.getD k 0).toNat_lt
      have hb1:=(s.data.toList.getD (k+1) 0).toNat_lt
      have hb2:=(s.data.toList.getD (k+2) 0).toNat_lt
      have hb3:=(s.data.toList.getD (k+3) 0).toNat_lt
      have ih1:=λh'=>clean44_J q s hs m (k+1) h' (by omega)
      have ih2:=λh'=>clean44_J q s hs m (k+2) h' (by omega)
      have ih3:=λh'=>clean44_J q s hs m (k+3) h' (by omega)
      have ih4:=λh'=>clean44_J q s hs m (k+4) h' (by omega)
      rw[round44 (q+5) m s hs k hlt b hb]
      have hne:s.data.toList.drop k≠[]:=by
        intro e;have:=congrArg List.length e;rw[List.length_drop]at this;simp at this;omega
      rw[Lib.validD_step _ hne,Lib.decodeL_N,List.length_drop,← hsz]
      simp only[getD_dropA,List.drop_drop,Nat.add_zero]
      have a1:=λh'=>all_drop s.data.toList (k+1) h'
      have a2:=λh'=>all_drop s.data.toList (k+2) h'
      have a3:=λh'=>all_drop s.data.toList (k+3) h'
      rw[all_drop s.data.toList k (by omega)]
      have o0:128≤b→ok32 (s.data.toList.getD k 0)=true:=λh'=>ok32_hi (by omega)
      have o1:128≤(s.data.toList.getD (k+1) 0).toNat→ok32 (s.data.toList.getD (k+1) 0)=true:=λh'=>ok32_hi h'
      have o2:128≤(s.data.toList.getD (k+2) 0).toNat→ok32 (s.data.toList.getD (k+2) 0)=true:=λh'=>ok32_hi h'
      have o3:128≤(s.data.toList.getD (k+3) 0).toNat→ok32 (s.data.toList.getD (k+3) 0)=true:=λh'=>ok32_hi h'
      have s1:=λ(w:Nat) hw r hr least hi=>step7 (q+5) (q+4) m s hs k hk w hw r hr least 1 hi
      have s2:=λ(w:Nat) hw r hr least hi=>step7 (q+5) (q+3) m s hs k hk w hw r hr least 2 hi
      have s3:=λ(w:Nat) hw r hr least hi=>step7 (q+5) (q+2) m s hs k hk w hw r hr least 3 hi
      rw[hb]at hb0 ⊢
      generalize (s.data.toList.getD (k+1) 0).toNat=b1 at hb1 o1 s1 ⊢
      generalize (s.data.toList.getD (k+2) 0).toNat=b2 at hb2 o2 s2 ⊢
      generalize (s.data.toList.getD (k+3) 0).toNat=b3 at hb3 o3 s3 ⊢
      obtain⟨D,hD⟩:∃ D,Lib.decodeN (s.size-k) b b1 b2 b3=D:=⟨_,rfl⟩
      rw[hD]
      unfold Lib.decodeN at hD
      have hbad:D=(65533,1)→∀ x y:Bool,(some (x&&y&&(if D.1=65533∧D.2=1 then false else Lib.validD (s.data.toList.drop (k+D.2))),()):Option yat.R)=some (false,()):=by
        rintro rfl x y;rw[if_pos ⟨rfl,rfl⟩,Bool.and_false]
      have hgood:∀ r w,D=(r,w)→w≠1∨r≠65533→(if D.1=65533∧D.2=1 then false else Lib.validD (s.data.toList.drop (k+D.2)))=Lib.validD (s.data.toList.drop (k+w)):=by
        rintro r w rfl h'; rw[if_neg (by simp only;omega)]
      by_cases h1:b<128
      · rw[if_pos h1]at hD
        rw[if_pos h1,sign44 q m s hs k hlt b 1 (by omega) b h1 0,end7 (q+5) (q+4) m s hs k hk 1 (by omega) b 0]
        rw[hgood b 1 hD.symm (by omega),if_pos (by omega:0≤b∧b≤1114111∧¬ (55296≤b∧b≤57343)),ih1 (by omega)]
        unfold ok32
        rw[hb]
        by_cases hc:32≤b∧b≠127
        · rw[if_pos hc,decide_eq_true hc.1,decide_eq_true hc.2];rfl
        · rw[if_neg hc]
          have:(decide (32≤b)&&decide (b≠127))=false:=by simp;omega
          rw[this];rfl
      · rw[if_neg h1]at hD ⊢
        rw[o0 (by omega)]
        by_cases h2:192≤b∧b<224
        · rw[if_pos h2,sign44 q m s hs k hlt b 2 (by omega) (b-192) (by omega) 128,if_pos (by omega),s1 2 (by omega) (b-192) (by omega) _ (by omega),end7 (q+5) (q+3) m s hs k hk 2 (by omega)]
          by_cases c:k+1<s.size∧b1/64=2
          · rw[if_pos ⟨by omega,by omega,c.2⟩]at hD
            rw[if_pos c.1,if_pos c.2]
            have er:(b-192)*64+b1%64=b%32*64+b1%64:=by omega
            rw[er]
            have hrr:b%32*64+b1%64<2048:=by omega
            generalize b%32*64+b1%64=rr at hD hrr ⊢
            by_cases c3:rr≥128
            · rw[if_pos c3]at hD
              rw[if_pos (by omega:128≤rr∧rr≤1114111∧¬ (55296≤rr∧rr≤57343)),hgood _ _ hD.symm (by omega),ih2 (by omega),a1 (by omega),o1 (by omega)];rfl
            · rw[if_neg c3]at hD
              rw[if_neg (by omega:¬ (128≤rr∧rr≤1114111∧¬ (55296≤rr∧rr≤57343))),hbad hD.symm]
          · rw[if_neg (by omega),if_neg (by omega),if_neg (by omega)]at hD
            rw[hbad hD.symm]
            by_cases c3:k+1<s.size
            · rw[if_pos c3,if_neg (by omega)]
            · rw[if_neg c3]
        · rw[if_neg h2]
          rw[if_neg (by omega)]at hD
          by_cases h3:224≤b∧b<240
          · rw[if_pos h3,sign44 q m s hs k hlt b 3 (by omega) (b-224) (by omega) 2048,if_pos (by omega),s1 3 (by omega) (b-224) (by omega) _ (by omega)]
            by_cases c1:k+1<s.size∧b1/64=2
            · rw[if_pos c1.1,if_pos c1.2,s2 3 (by omega) _ (by omega) _ (by omega),end7 (q+5) (q+2) m s hs k hk 3 (by omega)]
              by_cases c2:k+2<s.size∧b2/64=2
              · rw[if_pos ⟨by omega,⟨by omega,c1.2⟩,by omega,c2.2⟩]at hD
                rw[if_pos c2.1,if_pos c2.2]
                have er:((b-224)*64+b1%64)*64+b2%64=b%16*4096+b1%64*64+b2%64:=by omega
                rw[er]
                generalize b%16*4096+b1%64*64+b2%64=rr at hD ⊢
                by_cases c3:rr≥2048∧(rr<55296∨57344≤rr∧rr≤1114111)
                · rw[if_pos c3]at hD
                  rw[if_pos (by omega:2048≤rr∧rr≤1114111∧¬ (55296≤rr∧rr≤57343)),hgood _ _ hD.symm (by omega),ih3 (by omega),a1 (by omega),o1 (by omega),a2 (by omega),o2 (by omega)];rfl
                · rw[if_neg c3]at hD
                  rw[if_neg (by omega:¬ (2048≤rr∧rr≤1114111∧¬ (55296≤rr∧rr≤57343))),hbad hD.symm]
              · rw[if_neg (by omega),if_neg (by omega)]at hD
                rw[hbad hD.symm]
                by_cases c3:k+2<s.size
                · rw[if_pos c3,if_neg (by omega)]
                · rw[if_neg c3]
            · rw[if_neg (by omega),if_neg (by omega)]at hD
              rw[hbad hD.symm]
              by_cases c3:k+1<s.size
              · rw[if_pos c3,if_neg (by omega)]
              · rw[if_neg c3]
          · rw[if_neg h3]
            rw[if_neg (by omega)]at hD
            by_cases h4:240≤b∧b<248
            · rw[if_pos h4,sign44 q m s hs k hlt b 4 (by omega) (b-240) (by omega) 65536,if_pos (by omega),s1 4 (by omega) (b-240) (by omega) _ (by omega)]
              by_cases c1:k+1<s.size∧b1/64=2
              · rw[if_pos c1.1,if_pos c1.2,s2 4 (by omega) _ (by omega) _ (by omega)]
                by_cases c2:k+2<s.size∧b2/64=2
                · rw[if_pos c2.1,if_pos c2.2,s3 4 (by omega) _ (by omega) _ (by omega),end7 (q+5) (q+1) m s hs k hk 4 (by omega)]
                  by_cases c5:k+3<s.size∧b3/64=2
                  · rw[if_pos ⟨by omega,⟨by omega,c1.2⟩,⟨by omega,c2.2⟩,by omega,c5.2⟩]at hD
                    rw[if_pos c5.1,if_pos c5.2]
                    have er:(((b-240)*64+b1%64)*64+b2%64)*64+b3%64=b%8*262144+b1%64*4096+b2%64*64+b3%64:=by omega
                    rw[er]
                    generalize b%8*262144+b1%64*4096+b2%64*64+b3%64=rr at hD ⊢
                    by_cases c3:rr≥65536∧(rr<55296∨57344≤rr∧rr≤1114111)
                    · rw[if_pos c3]at hD
                      rw[if_pos (by omega:65536≤rr∧rr≤1114111∧¬ (55296≤rr∧rr≤57343)),hgood _ _ hD.symm (by omega),ih4 (by omega),a1 (by omega),o1 (by omega),a2 (by omega),o2 (by omega),a3 (by omega),o3 (by omega)];rfl
                    · rw[if_neg c3]at hD
                      rw[if_neg (by omega:¬ (65536≤rr∧rr≤1114111∧¬ (55296≤rr∧rr≤57343))),hbad hD.symm]
                  · rw[if_neg (by omega)]at hD
                    rw[hbad hD.symm]
                    by_cases c3:k+3<s.size
                    · rw[if_pos c3,if_neg (by omega)]
                    · rw[if_neg c3]
                · rw[if_neg (by omega)]at hD
                  rw[hbad hD.symm]
                  by_cases c3:k+2<s.size
                  · rw[if_pos c3,if_neg (by omega)]
                  · rw[if_neg c3]
              · rw[if_neg (by omega)]at hD
                rw[hbad hD.symm]
                by_cases c3:k+1<s.size
                · rw[if_pos c3,if_neg (by omega)]
                · rw[if_neg c3]
            · rw[if_neg (by omega)]at hD
              rw[if_neg h4,hbad hD.symm]
    · have hkk:k=s.size:=by omega
      subst hkk
      rw[yat.e1]
      simp only[yaN,ycN,ycM]
      rw[if_neg (by simp),hsz,List.drop_length]
      rw[yat.e12];rfl
theorem clean44 {n:Nat}{s:ByteArray}(hs:s.size≤1073741824)(hn:s.size<n)(h5:5≤n):yat.f n s=some (cleanB s,()):=by
  obtain⟨q,rfl⟩:∃ q,n=q+5:=⟨n-5,by omega⟩
  rw[yat.e0]
  change yat.J1 (q+5) (q+5) (s,((0:Nat):Int),())=_
  rw[clean44_J q s hs (q+5) 0 (by omega) (by omega)]
  rfl
end Go.Proofs.YtemhlkdingkjnaaGreatDoor
namespace Go.Proofs.YtemhlkdingkjnaaGreatDoor
open Go Go.Va Go.Proofs
noncomputable section
namespace ybZ
abbrev ia:List Ai:=[.dat (.int .i64)]
abbrev io:List (Nat×Oi):=[(2,.dat (.int .i64))]
abbrev R:Type:=DOut ia io
def X (n:Nat):Ctx:=⟨⟨tab,[],0,[]⟩,6,bnOf 0 ia⟩
def T:CT := .o
def f (n:Nat)(t:Int):Option R:=fRun (X n) n T Tryz.f64 ia io (t,())
theorem e0 (n:Nat)(t:Int):f n t=some ((maxI .i64 (-62135596800) (minI .i64 t 253402300799)),()):=(yac _).trans (by kernel_rfl)
theorem ok (n:Nat):FnOk Tryz.prog 64 ia io (fRun (X n) n T Tryz.f64 ia io):=yaA mixed tabIs (yas) Tryz.func64 (by kernel_rfl) rfl
def en (n:Nat):Entry:=yaw 64 ia io (fRun (X n) n T Tryz.f64 ia io)
end ybZ
namespace yby
abbrev ia:List Ai:=[.dat (.int .i64)]
abbrev io:List (Nat×Oi):=[(2,.dat (.int .i64))]
abbrev R:Type:=DOut ia io
def X (n:Nat):Ctx:=⟨⟨tab,[],0,[]⟩,8,bnOf 0 ia⟩
def T:CT := .o
def f (n:Nat)(t:Int):Option R:=fRun (X n) n T Tryz.f42 ia io (t,())
theorem e0 (n:Nat)(t:Int):f n t=bIf ((hide (decide (t<(-62135596800:Int))))) (some ((-62135596800),())) (bIf ((hide (decide (t>(253402300799:Int))))) (some (253402300799,())) (some (t,()))):=(yac _).trans (by kernel_rfl)
theorem ok (n:Nat):FnOk Tryz.prog 42 ia io (fRun (X n) n T Tryz.f42 ia io):=yaA mixed tabIs (yas) Tryz.func42 (by kernel_rfl) rfl
def en (n:Nat):Entry:=yaw 42 ia io (fRun (X n) n T Tryz.f42 ia io)
end yby
namespace yda
abbrev ia:List Ai:=[.dat ycs]
abbrev io:List (Nat×Oi):=[(2,.dat .bool)]
abbrev R:Type:=DOut ia io
def X (n:Nat):Ctx:=⟨⟨tab,[ybZ.en n],0,[]⟩,19,bnOf 0 ia⟩
abbrev g1:List Si:=[.ref 1 1 ycs,.dat 10 .bool,.box 1 (.d ycs)]
def T:CT:=(.s .o (.s (.s .o (.b (.s .o (.c .o (.s .o (.r g1 .o)))))) .o))
def J1 (n:Nat):Bool×yc7×Unit→Option R:=jR (X n) n T (yau Tryz.f194) (endK ia io) g1 [1,0,1,0,1,1,1] []
def f (n:Nat)(l:yc7):Option R:=fRun (X n) n T Tryz.f194 ia io (l,())
theorem e0 (n:Nat)(l:yc7):f n l=bIf ((hide (l.1==(0:Int)))) (some ((hide (l.2.1==(0:Int))),())) (bIf ((hide (l.1==(1:Int)))) (J1 n (true,l,())) (J1 n ((hide (l.1==(2:Int))),l,()))):=(yac _).trans (by kernel_rfl)
theorem e1 (n:Nat)(t10:Bool)(l:yc7):J1 n (t10,l,())=bIf (t10) (bnd (ybZ.f n l.2.1) λu1=>some ((hide (l.2.1==u1.1)),())) (some (false,())):=(yac _).trans (by kernel_rfl)
theorem ok (n:Nat):FnOk Tryz.prog 194 ia io (fRun (X n) n T Tryz.f194 ia io):=yaA mixed tabIs (yaj (yai (ybZ.ok n)) (yas)) Tryz.func194 (by kernel_rfl) rfl
def en (n:Nat):Entry:=yaw 194 ia io (fRun (X n) n T Tryz.f194 ia io)
end yda
namespace yc9
abbrev ia:List Ai:=[.dat ycs]
abbrev io:List (Nat×Oi):=[(2,.dat .bool)]
abbrev R:Type:=DOut ia io
def X (n:Nat):Ctx:=⟨⟨tab,[yby.en n],0,[]⟩,25,bnOf 0 ia⟩
def T:CT := .o
def f (n:Nat)(l:yc7):Option R:=fRun (X n) n T Tryz.f189 ia io (l,())
theorem e0 (n:Nat)(l:yc7):f n l=bIf ((hide (l.1==(0:Int)))) (some ((hide (l.2.1==(0:Int))),())) (bIf ((hide (l.1==(1:Int)))) (bnd (yby.f n l.2.1) λu1=>some ((hide (u1.1==l.2.1)),())) (bIf ((hide (l.1==(2:Int)))) (bnd (yby.f n l.2.1) λu2=>some ((hide (u2.1==l.2.1)),())) (some (false,())))):=(yac _).trans (by kernel_rfl)
theorem ok (n:Nat):FnOk Tryz.prog 189 ia io (fRun (X n) n T Tryz.f189 ia io):=yaA mixed tabIs (yaj (yai (yby.ok n)) (yas)) Tryz.func189 (by kernel_rfl) rfl
def en (n:Nat):Entry:=yaw 189 ia io (fRun (X n) n T Tryz.f189 ia io)
end yc9
namespace ydD
abbrev ia:List Ai:=[.dat yar]
abbrev io:List (Nat×Oi):=[(2,.dat .bool)]
abbrev R:Type:=DOut ia io
def X (n:Nat):Ctx:=⟨⟨tab,[ybh.en n],0,[]⟩,28,bnOf 0 ia⟩
def T:CT := .o
def f (n:Nat)(t:yaI):Option R:=fRun (X n) n T Tryz.f217 ia io (t,())
theorem e0 (n:Nat)(t:yaI):f n t=bIf ((hide (!eqS t.1 (⟨#[]⟩:ByteArray)))) (bIf ((hide (decide ((t.1.size:Int)≤(64:Int))))) (bIf ((hide (decide ((t.2.1.size:Int)≤(64:Int))))) (bnd (ybh.f n t.1) λu1=>bIf (u1.1) (bnd (ybh.f n t.2.1) λu2=>some (u2.1,())) (some (false,()))) (some (false,()))) (some (false,()))) (some (false,())):=(yac _).trans (by kernel_rfl)
theorem ok (n:Nat):FnOk Tryz.prog 217 ia io (fRun (X n) n T Tryz.f217 ia io):=yaA mixed tabIs (yaj (yai (ybh.ok n)) (yas)) Tryz.func217 (by kernel_rfl) rfl
def en (n:Nat):Entry:=yaw 217 ia io (fRun (X n) n T Tryz.f217 ia io)
end ydD
namespace ybz
abbrev ia:List Ai:=[.dat (.slice yar)]
abbrev io:List (Nat×Oi):=[(2,.dat .bool)]
abbrev R:Type:=DOut ia io
def X (n:Nat):Ctx:=⟨⟨tab,[ydD.en n],0,[]⟩,34,bnOf 0 ia⟩
abbrev g1:List Si:=[.dat 0 (.slice yar),.dat 8 (.slice yar),.dat 9 (.int .i64),.dat 10 (.int .i64)]
abbrev g2:List Si:=[]
def T:CT:=(.s .o (.s .o (.s (.s .o (.b (.l g1 .o))) (.r g2 .o))))
def J1 (n:Nat)(m:Nat):(List (yaI))×(List (yaI))×Int×Int×Unit→Option R:=jL (X n) n T (yau Tryz.f174) (endK ia io) g1 [1,1,0,1,0] [] m
def J2 (n:Nat):Unit→Option R:=jR (X n) n T (yau Tryz.f174) (endK ia io) g2 [1,1,1] []
def f (n:Nat)(list:List (yaI)):Option R:=fRun (X n) n T Tryz.f174 ia io (list,())
theorem e0 (n:Nat)(list:List (yaI)):f n list=bIf ((hide (decide (((list.length:Nat):Int)>(8:Int))))) (some (false,())) (J1 n n (list,list,((list.length:Nat):Int),0,())):=(yac _).trans (by kernel_rfl)
theorem e1 (n m:Nat)(list:List (yaI))(t8:List (yaI))(t9:Int)(t10:Int):J1 n (m+1) (list,t8,t9,t10,())=bIf ((hide (decide (t10<t9)))) (gIf (0≤t10∧t10<((t8.length:Nat):Int)) (bnd (ydD.f n (List.getD t8 t10.toNat (Va.dflt yar))) λu1=>bIf ((!u1.1)) (some (false,())) (bIf ((hide (decide (t10>(0:Int))))) (gIf (0≤(IntKind.i64.wrap (t10-(1:Int)))∧(IntKind.i64.wrap (t10-(1:Int)))<((list.length:Nat):Int)) (bIf ((hide (!ltS ((List.getD list ((IntKind.i64.wrap (t10-(1:Int))).toNat) (Va.dflt yar)).1) ((List.getD t8 t10.toNat (Va.dflt yar)).1)))) (some (false,())) (J1 n m (list,t8,t9,(IntKind.i64.wrap (t10+(1:Int))),())))) (J1 n m (list,t8,t9,(IntKind.i64.wrap (t10+(1:Int))),()))))) (J2 n (())):=(yac _).trans (by kernel_rfl)
theorem e2 (n:Nat):J2 n (())=some (true,()):=(yac _).trans (by kernel_rfl)
theorem ok (n:Nat):FnOk Tryz.prog 174 ia io (fRun (X n) n T Tryz.f174 ia io):=yaA mixed tabIs (yaj (yai (ydD.ok n)) (yas)) Tryz.func174 (by kernel_rfl) rfl
def en (n:Nat):Entry:=yaw 174 ia io (fRun (X n) n T Tryz.f174 ia io)
end ybz
namespace ybd
abbrev ia:List Ai:=[.dat (.slice yar)]
abbrev io:List (Nat×Oi):=[(2,.dat .bool)]
abbrev R:Type:=DOut ia io
def X (n:Nat):Ctx:=⟨⟨tab,[yat.en n],0,[]⟩,72,bnOf 0 ia⟩
abbrev g1:List Si:=[.dat 0 (.slice yar),.dat 3 (.int .i64)]
abbrev g2:List Si:=[.dat 0 (.slice yar),.dat 3 (.int .i64)]
abbrev g3:List Si:=[.dat 0 (.slice yar),.dat 3 (.int .i64)]
abbrev g4:List Si:=[]
def T:CT:=(.s .o (.s .o (.s (.s .o (.b (.l g1 (.s .o (.s (.b (.s .o (.r g2 .o))) (.r g3 .o)))))) (.r g4 .o))))
def J1 (n:Nat)(m:Nat):(List (yaI))×Int×Unit→Option R:=jL (X n) n T (yau Tryz.f85) (endK ia io) g1 [1,1,0,1,0] [] m
def J2 (n m1:Nat):(List (yaI))×Int×Unit→Option R:=jR (X n) n T (yau Tryz.f85) (endK ia io) g2 [1,1,0,1,0,0,1,0,0,1] [m1]
def J3 (n m1:Nat):(List (yaI))×Int×Unit→Option R:=jR (X n) n T (yau Tryz.f85) (endK ia io) g3 [1,1,0,1,0,0,1,1] [m1]
def J4 (n:Nat):Unit→Option R:=jR (X n) n T (yau Tryz.f85) (endK ia io) g4 [1,1,1] []
def f (n:Nat)(l:List (yaI)):Option R:=fRun (X n) n T Tryz.f85 ia io (l,())
theorem e0 (n:Nat)(l:List (yaI)):f n l=bIf ((hide (decide (((l.length:Nat):Int)>(8:Int))))) (some (false,())) (J1 n n (l,0,())):=(yac _).trans (by kernel_rfl)
theorem e1 (n m:Nat)(l:List (yaI))(i:Int):J1 n (m+1) (l,i,())=bIf ((hide (decide (i<((l.length:Nat):Int))))) (gIf (0≤i∧i<((l.length:Nat):Int)) (bIf ((hide (decide ((((List.getD l i.toNat (Va.dflt yar)).1).size:Int)<(1:Int))))) (some (false,())) (gIf (0≤i∧i<((l.length:Nat):Int)) (bIf ((hide (decide ((((List.getD l i.toNat (Va.dflt yar)).1).size:Int)>(64:Int))))) (some (false,())) (gIf (0≤i∧i<((l.length:Nat):Int)) (bIf ((hide (decide (((((List.getD l i.toNat (Va.dflt yar)).2).1).size:Int)>(64:Int))))) (some (false,())) (gIf (0≤i∧i<((l.length:Nat):Int)) (bnd (yat.f n ((List.getD l i.toNat (Va.dflt yar)).1)) λu1=>bIf ((!u1.1)) (some (false,())) (gIf (0≤i∧i<((l.length:Nat):Int)) (bnd (yat.f n (((List.getD l i.toNat (Va.dflt yar)).2).1)) λu2=>bIf ((!u2.1)) (some (false,())) (J2 n m (l,i,())))))))))))) (J4 n (())):=(yac _).trans (by kernel_rfl)
theorem e2 (n m1:Nat)(l:List (yaI))(i:Int):J2 n m1 (l,i,())=bIf ((hide (decide (i>(0:Int))))) (gIf (0≤i∧i<((l.length:Nat):Int)) (gIf (0≤(IntKind.i64.wrap (i-(1:Int)))∧(IntKind.i64.wrap (i-(1:Int)))<((l.length:Nat):Int)) (bIf ((hide (ltS ((List.getD l i.toNat (Va.dflt yar)).1) ((List.getD l ((IntKind.i64.wrap (i-(1:Int))).toNat) (Va.dflt yar)).1)||eqS ((List.getD l i.toNat (Va.dflt yar)).1) ((List.getD l ((IntKind.i64.wrap (i-(1:Int))).toNat) (Va.dflt yar)).1)))) (some (false,())) (J3 n m1 (l,i,()))))) (J3 n m1 (l,i,())):=(yac _).trans (by kernel_rfl)
theorem e3 (n m1:Nat)(l:List (yaI))(i:Int):J3 n m1 (l,i,())=J1 n m1 (l,(IntKind.i64.wrap (i+(1:Int))),()):=(yac _).trans (by kernel_rfl)
theorem e4 (n:Nat):J4 n (())=some (true,()):=(yac _).trans (by kernel_rfl)
theorem ok (n:Nat):FnOk Tryz.prog 85 ia io (fRun (X n) n T Tryz.f85 ia io):=yaA mixed tabIs (yaj (yai (yat.ok n)) (yas)) Tryz.func85 (by kernel_rfl) rfl
def en (n:Nat):Entry:=yaw 85 ia io (fRun (X n) n T Tryz.f85 ia io)
end ybd
namespace ybv
abbrev ia:List Ai:=[.dat (.slice yar),.dat (.slice yar)]
abbrev io:List (Nat×Oi):=[(4,.dat .bool)]
abbrev R:Type:=DOut ia io
def X (n:Nat):Ctx:=⟨⟨tab,[],0,[]⟩,41,bnOf 0 ia⟩
abbrev g1:List Si:=[.dat 0 (.slice yar),.dat 1 (.slice yar),.dat 5 (.int .i64)]
abbrev g2:List Si:=[.dat 0 (.slice yar),.dat 1 (.slice yar),.dat 5 (.int .i64)]
abbrev g3:List Si:=[]
def T:CT:=(.s .o (.s .o (.s (.s .o (.b (.l g1 (.s .o (.s .o (.r g2 .o)))))) (.r g3 .o))))
def J1 (n:Nat)(m:Nat):(List (yaI))×(List (yaI))×Int×Unit→Option R:=jL (X n) n T (yau Tryz.f52) (endK ia io) g1 [1,1,0,1,0] [] m
def J2 (n m1:Nat):(List (yaI))×(List (yaI))×Int×Unit→Option R:=jR (X n) n T (yau Tryz.f52) (endK ia io) g2 [1,1,0,1,0,0,1,1] [m1]
def J3 (n:Nat):Unit→Option R:=jR (X n) n T (yau Tryz.f52) (endK ia io) g3 [1,1,1] []
def f (n:Nat)(a:List (yaI))(b:List (yaI)):Option R:=fRun (X n) n T Tryz.f52 ia io (a,b,())
theorem e0 (n:Nat)(a:List (yaI))(b:List (yaI)):f n a b=bIf ((hide (((a.length:Nat):Int) != ((b.length:Nat):Int)))) (some (false,())) (J1 n n (a,b,0,())):=(yac _).trans (by kernel_rfl)
theorem e1 (n m:Nat)(a:List (yaI))(b:List (yaI))(i:Int):J1 n (m+1) (a,b,i,())=bIf ((hide (decide (i<((a.length:Nat):Int))))) (gIf (0≤i∧i<((a.length:Nat):Int)) (gIf (0≤i∧i<((b.length:Nat):Int)) (bIf ((hide (!eqS ((List.getD a i.toNat (Va.dflt yar)).1) ((List.getD b i.toNat (Va.dflt yar)).1)))) (some (false,())) (gIf (0≤i∧i<((a.length:Nat):Int)) (gIf (0≤i∧i<((b.length:Nat):Int)) (bIf ((hide (!eqS (((List.getD a i.toNat (Va.dflt yar)).2).1) (((List.getD b i.toNat (Va.dflt yar)).2).1)))) (some (false,())) (J2 n m (a,b,i,())))))))) (J3 n (())):=(yac _).trans (by kernel_rfl)
theorem e2 (n m1:Nat)(a:List (yaI))(b:List (yaI))(i:Int):J2 n m1 (a,b,i,())=J1 n m1 (a,b,(IntKind.i64.wrap (i+(1:Int))),()):=(yac _).trans (by kernel_rfl)
theorem e3 (n:Nat):J3 n (())=some (true,()):=(yac _).trans (by kernel_rfl)
theorem ok (n:Nat):FnOk Tryz.prog 52 ia io (fRun (X n) n T Tryz.f52 ia io):=yaA mixed tabIs (yas) Tryz.func52 (by kernel_rfl) rfl
def en (n:Nat):Entry:=yaw 52 ia io (fRun (X n) n T Tryz.f52 ia io)
end ybv
namespace ycO
abbrev ia:List Ai:=[.dat .str]
abbrev io:List (Nat×Oi):=[(2,.dat .bool)]
abbrev R:Type:=DOut ia io
def X (n:Nat):Ctx:=⟨⟨tab,[ybh.en n],0,[]⟩,14,bnOf 0 ia⟩
def T:CT := .o
def f (n:Nat)(s_:ByteArray):Option R:=fRun (X n) n T Tryz.f118 ia io (s_,())
theorem e0 (n:Nat)(s_:ByteArray):f n s_=bIf ((hide (!eqS s_ (⟨#[]⟩:ByteArray)))) (bIf ((hide (decide ((s_.size:Int)≤(200:Int))))) (bnd (ybh.f n s_) λu1=>some (u1.1,())) (some (false,()))) (some (false,())):=(yac _).trans (by kernel_rfl)
theorem ok (n:Nat):FnOk Tryz.prog 118 ia io (fRun (X n) n T Tryz.f118 ia io):=yaA mixed tabIs (yaj (yai (ybh.ok n)) (yas)) Tryz.func118 (by kernel_rfl) rfl
def en (n:Nat):Entry:=yaw 118 ia io (fRun (X n) n T Tryz.f118 ia io)
end ycO
namespace ycS
abbrev ia:List Ai:=[.dat .str]
abbrev io:List (Nat×Oi):=[(2,.dat .bool)]
abbrev R:Type:=DOut ia io
def X (n:Nat):Ctx:=⟨⟨tab,[yat.en n],0,[]⟩,15,bnOf 0 ia⟩
def T:CT := .o
def f (n:Nat)(s_:ByteArray):Option R:=fRun (X n) n T Tryz.f87 ia io (s_,())
theorem e0 (n:Nat)(s_:ByteArray):f n s_=bIf ((hide (decide ((s_.size:Int)≥(1:Int))))) (bIf ((hide (decide ((s_.size:Int)≤(200:Int))))) (bnd (yat.f n s_) λu1=>some (u1.1,())) (some (false,()))) (some (false,())):=(yac _).trans (by kernel_rfl)
theorem ok (n:Nat):FnOk Tryz.prog 87 ia io (fRun (X n) n T Tryz.f87 ia io):=yaA mixed tabIs (yaj (yai (yat.ok n)) (yas)) Tryz.func87 (by kernel_rfl) rfl
def en (n:Nat):Entry:=yaw 87 ia io (fRun (X n) n T Tryz.f87 ia io)
end ycS
end
end Go.Proofs.YtemhlkdingkjnaaGreatDoor
namespace Go.Proofs.YtemhlkdingkjnaaGreatDoor
open Go Go.Va Go.Proofs
theorem ba_beq (a b:ByteArray):(a==b)=decide (a=b):=by
  change (a.data==b.data)=_
  by_cases h:a=b
  · subst h;simp
  · rw[decide_eq_false h]
    exact beq_false_of_ne (λe=>h (by cases a;cases b;exact congrArg _ e))
theorem eqS_eq (a b:ByteArray):eqS a b=(a==b):=by
  unfold eqS
  rw[Lib.toList_data,Lib.toList_data,ba_beq]
  by_cases h:a=b
  · subst h;simp
  · rw[decide_eq_false h]
    exact beq_false_of_ne (λe=>h (by cases a;cases b;simp at e;rw[e]))
def ydH (t:Int):Int:=if t < -62135596800 then -62135596800 else if t>253402300799 then 253402300799 else t
theorem clamp33 (n:Nat)(t:Int):ybZ.f n t=some (ydH t,()):=by
  rw[ybZ.e0]
  unfold ydH maxI minI
  congr 2
  repeat' split
  all_goals omega
theorem clamp36 (n:Nat)(t:Int):yby.f n t=some (ydH t,()):=by
  rw[yby.e0]
  unfold ydH
  simp only[yaN,ycN,decide_eq_true_eq]
  repeat' split
  all_goals first | rfl | omega
def lockB (l:yc7):Bool:=
  if l.1=0 then l.2.1==0 else if l.1=1∨l.1=2 then l.2.1==ydH l.2.1 else false
theorem lock34 (n:Nat)(l:yc7):yda.f n l=some (lockB l,()):=by
  rw[yda.e0]
  unfold lockB
  simp only[yaN,ycN,yda.e1,clamp33,bnd_some,beq_iff_eq]
  by_cases h0:l.1=0
  · rw[if_pos h0,if_pos h0]
  · rw[if_neg h0,if_neg h0]
    by_cases h1:l.1=1
    · rw[if_pos h1,if_pos (c:=l.1=1∨l.1=2) (.inl h1)];rfl
    · rw[if_neg h1]
      by_cases h2:l.1=2
      · rw[if_pos h2,if_pos (c:=l.1=1∨l.1=2) (.inr h2)]
      · rw[if_neg h2,if_neg (c:=l.1=1∨l.1=2) (not_or.2 ⟨h1,h2⟩)]
theorem lock37 (n:Nat)(l:yc7):yc9.f n l=some (lockB l,()):=by
  rw[yc9.e0]
  unfold lockB
  simp only[yaN,ycN,clamp36,bnd_some,beq_iff_eq]
  by_cases h0:l.1=0
  · rw[if_pos h0,if_pos h0]
  · rw[if_neg h0,if_neg h0]
    by_cases h1:l.1=1
    · rw[if_pos h1,if_pos (c:=l.1=1∨l.1=2) (.inl h1),BEq.comm]
    · rw[if_neg h1]
      by_cases h2:l.1=2
      · rw[if_pos h2,if_pos (c:=l.1=1∨l.1=2) (.inr h2),BEq.comm]
      · rw[if_neg h2,if_neg (c:=l.1=1∨l.1=2) (not_or.2 ⟨h1,h2⟩)]
theorem size0 (s:ByteArray):eqS s ⟨#[]⟩=decide (s.size=0):=by
  rw[eqS_eq,ba_beq]
  by_cases h:s=⟨#[]⟩
  · subst h;rfl
  · rw[decide_eq_false h,decide_eq_false]
    intro h2
    apply h
    cases s with | mk d=>
    have:d = #[]:=Array.eq_empty_of_size_eq_zero h2
    rw[this]
def tagB (t:yaI):Bool:=decide (1≤t.1.size)&&(decide (t.1.size≤64)&&(decide (t.2.1.size≤64)&&(cleanB t.1&&cleanB t.2.1)))
def TB (n:Nat)(t:yaI):Prop:=t.1.size<n∧t.2.1.size<n
theorem tag47 {n:Nat}{t:yaI}(h:TB n t)(hn:n≤536870912):ydD.f n t=some (tagB t,()):=by
  rw[ydD.e0]
  unfold tagB
  rw[clean42 (by have:=h.1;omega) h.1,clean42 (by have:=h.2;omega) h.2,size0]
  simp only[yaN,ycN,bnd_some]
  have e1:decide ((t.1.size:Int)≤64)=decide (t.1.size≤64):=decide_eq_decide.2 (by omega)
  have e2:decide ((t.2.1.size:Int)≤64)=decide (t.2.1.size≤64):=decide_eq_decide.2 (by omega)
  have e0:(!decide (t.1.size=0))=decide (1≤t.1.size):=by
    by_cases h0:t.1.size=0
    · rw[decide_eq_true h0,decide_eq_false (by omega)];rfl
    · rw[decide_eq_false h0,decide_eq_true (by omega)];rfl
  rw[e0,e1,e2]
  cases decide (1≤t.1.size)<;>cases decide (t.1.size≤64)<;>cases decide (t.2.1.size≤64)<;>cases cleanB t.1<;>simp
def chk {α:Type}(p:α→Bool)(q:α→α→Bool):Option α→List α→Bool
  | _,[]=>true
  | none,x::l=>p x&&chk p q (some x) l
  | some y,x::l=>p x&&(q y x&&chk p q (some x) l)
def prev {α:Type}(l:List α)(k:Nat):Option α:=if k=0 then none else l[k-1]?
theorem chk_zero {α:Type}{p:α→Bool}{q:α→α→Bool}{l:List α}{d:α}(h:0<l.length):chk p q (prev l 0) (l.drop 0)=(p (l.getD 0 d)&&chk p q (prev l 1) (l.drop 1)):=by
  cases l with
  | nil=>simp at h
  | cons x r=>rfl
theorem chk_succ {α:Type}{p:α→Bool}{q:α→α→Bool}{l:List α}{d:α}{k:Nat}(h0:0<k)(h:k<l.length):chk p q (prev l k) (l.drop k)=(p (l.getD k d)&&(q (l.getD (k-1) d) (l.getD k d)&&chk p q (prev l (k+1)) (l.drop (k+1)))):=by
  rw[List.drop_eq_getElem_cons h]
  unfold prev
  rw[if_neg (by omega),if_neg (by omega),List.getElem?_eq_getElem (by omega),Nat.add_sub_cancel,List.getElem?_eq_getElem h]
  rw[List.getD_eq_getElem?_getD,List.getD_eq_getElem?_getD,List.getElem?_eq_getElem h,List.getElem?_eq_getElem (by omega)]
  rfl
theorem chk_end {α:Type}{p:α→Bool}{q:α→α→Bool}{l:List α}{k:Nat}(h:l.length≤k)(o:Option α):chk p q o (l.drop k)=true:=by
  rw[List.drop_eq_nil_of_le h];cases o<;>rfl
theorem ybr {α:Type}{l:List α}{k:Nat}{d:α}(h:k<l.length):l.getD k d∈l:=by
  rw[List.getD_eq_getElem?_getD,List.getElem?_eq_getElem h];exact List.getElem_mem h
def tagsB (l:List (yaI)):Bool:=decide (l.length≤8)&&chk tagB (λa b=>ltS a.1 b.1) none l
def TsB (n:Nat)(l:List (yaI)):Prop:=l.length<n∧∀ t∈l,TB n t
theorem tags35_J (n:Nat) (hn:n≤536870912) (l:List (yaI)) (hl:TsB n l):∀ (m k:Nat),k≤l.length→l.length-k<m →
    ybz.J1 n m (l,l,((l.length:Nat):Int),(k:Int),())=some (chk tagB (λa b=>ltS a.1 b.1) (prev l k) (l.drop k),())
  | 0,k,_,h=>by omega
  | m + 1,k,hk,h=>by
    have hl1:=hl.1
    rw[ybz.e1]
    simp only[yaN,ycN,ycM]
    by_cases hlt:k<l.length
    · have ih:=tags35_J n hn l hl m (k+1) (by omega) (by omega)
      rw[if_pos (decide_eq_true (by omega)),if_pos ⟨by omega,by omega⟩,Int.toNat_natCast,tag47 (hl.2 _ (ybr hlt)) hn,bnd_some,ybn (x:=(k:Int)+1) (by omega),show ((k:Int)+1)=((k+1:Nat):Int) by omega,ih]
      by_cases h0:k=0
      · subst h0
        rw[chk_zero (d:=Va.dflt yar) (by omega),if_neg (c:=decide (((0:Nat):Int)>0)=true) (by simp)]
        cases tagB (l.getD 0 (Va.dflt yar))<;>simp
      · rw[chk_succ (d:=Va.dflt yar) (by omega) hlt,if_pos (c:=decide ((k:Int)>0)=true) (decide_eq_true (by omega)),ybn (by omega),if_pos (show 0≤(k:Int)-1∧(k:Int)-1<((l.length:Nat):Int) from ⟨by omega,by omega⟩),show ((k:Int)-1).toNat=k-1 by omega]
        cases tagB (l.getD k (Va.dflt yar))<;>cases ltS (l.getD (k-1) (Va.dflt yar)).1 (l.getD k (Va.dflt yar)).1<;>simp
    · rw[if_neg (by simp;omega),chk_end (by omega)]
      rw[ybz.e2]
theorem tags35 {n:Nat}(hn:n≤536870912){l:List (yaI)}(hl:TsB n l):ybz.f n l=some (tagsB l,()):=by
  have h:=tags35_J n hn l hl n 0 (by omega) (by have:=hl.1;omega)
  rw[ybz.e0]
  unfold tagsB
  simp only[yaN,ycN]
  by_cases h8:l.length≤8
  · rw[if_neg (by simp;omega),decide_eq_true h8]
    exact h
  · rw[if_pos (decide_eq_true (by omega)),decide_eq_false h8];rfl
theorem less_tri:∀ x y:List UInt8,Op.bytesLess x y=!(Op.bytesLess y x||y==x)
  | [],[]=>rfl
  | [],_::_=>rfl
  | _::_,[]=>rfl
  | a :: x,b::y=>by
    have ih:=less_tri x y
    simp only[Op.bytesLess,List.cons_beq_cons,ih]
    by_cases h:a=b
    · subst h
      simp
    · have h1:(a==b)=false:=beq_false_of_ne h
      have h2:(b==a)=false:=beq_false_of_ne (λe=>h e.symm)
      rw[h1,h2]
      simp only[Bool.false_and,Bool.or_false]
      have h3:¬ a.toNat=b.toNat:=λe=>h (UInt8.toNat_inj.1 e)
      have h4:decide (a<b)=decide (a.toNat<b.toNat):=decide_eq_decide.2 UInt8.lt_iff_toNat_lt
      have h5:decide (b<a)=decide (b.toNat<a.toNat):=decide_eq_decide.2 UInt8.lt_iff_toNat_lt
      rw[h4,h5]
      by_cases h6:a.toNat<b.toNat
      · rw[decide_eq_true h6,decide_eq_false (by omega)];rfl
      · rw[decide_eq_false h6,decide_eq_true (by omega)];rfl
theorem ltS_tri (a b:ByteArray):ltS a b=!(ltS b a||eqS b a):=less_tri _ _
theorem tags38_J (n:Nat) (hn:n≤536870912) (h5:5≤n) (l:List (yaI)) (hl:TsB n l):∀ (m k:Nat),k≤l.length→l.length-k<m →
    ybd.J1 n m (l,(k:Int),())=some (chk tagB (λa b=>ltS a.1 b.1) (prev l k) (l.drop k),())
  | 0,k,_,h=>by omega
  | m + 1,k,hk,h=>by
    have hl1:=hl.1
    rw[ybd.e1]
    simp only[yaN,ycN,ycM]
    by_cases hlt:k<l.length
    · have ih:=tags38_J n hn h5 l hl m (k+1) (by omega) (by omega)
      have hg:(0≤(k:Int)∧(k:Int)<((l.length:Nat):Int)):=⟨by omega,by omega⟩
      obtain⟨hb1,hb2⟩:=hl.2 _ (ybr (d:=Va.dflt yar) hlt)
      rw[if_pos (decide_eq_true (by omega))]
      simp only[if_pos hg,Int.toNat_natCast]
      rw[clean44 (by omega) hb1 h5,clean44 (by omega) hb2 h5,bnd_some,bnd_some,ybd.e2]
      simp only[yaN,ycN,ycM,ybd.e3,if_pos hg,Int.toNat_natCast]
      rw[ybn (x:=(k:Int)+1) (by omega),show ((k:Int)+1)=((k+1:Nat):Int) by omega,ih]
      have hx:chk tagB (λa b=>ltS a.1 b.1) (prev l k) (l.drop k)=(tagB (l.getD k (Va.dflt yar))&&((if k=0 then true else ltS (l.getD (k-1) (Va.dflt yar)).1 (l.getD k (Va.dflt yar)).1)&&chk tagB (λa b=>ltS a.1 b.1) (prev l (k+1)) (l.drop (k+1)))):=by
        by_cases h0:k=0
        · subst h0
          rw[chk_zero (d:=Va.dflt yar) (by omega),if_pos rfl,Bool.true_and]
        · rw[chk_succ (d:=Va.dflt yar) (by omega) hlt,if_neg h0]
      rw[hx]
      have g1:decide (((l.getD k (Va.dflt yar)).1.size:Int)<1)=!decide (1≤(l.getD k (Va.dflt yar)).1.size):=by
        by_cases h0:1≤(l.getD k (Va.dflt yar)).1.size
        · rw[decide_eq_true h0,decide_eq_false (by omega)];rfl
        · rw[decide_eq_false h0,decide_eq_true (by omega)];rfl
      have g2:decide (((l.getD k (Va.dflt yar)).1.size:Int)>64)=!decide ((l.getD k (Va.dflt yar)).1.size≤64):=by
        by_cases h0:(l.getD k (Va.dflt yar)).1.size≤64
        · rw[decide_eq_true h0,decide_eq_false (by omega)];rfl
        · rw[decide_eq_false h0,decide_eq_true (by omega)];rfl
      have g3:decide (((l.getD k (Va.dflt yar)).2.1.size:Int)>64)=!decide ((l.getD k (Va.dflt yar)).2.1.size≤64):=by
        by_cases h0:(l.getD k (Va.dflt yar)).2.1.size≤64
        · rw[decide_eq_true h0,decide_eq_false (by omega)];rfl
        · rw[decide_eq_false h0,decide_eq_true (by omega)];rfl
      simp only[g1,g2,g3]
      have hy:(if decide ((k:Int)>0)=true then if 0≤IntKind.i64.wrap ((k:Int)-1)∧IntKind.i64.wrap ((k:Int)-1)<((l.length:Nat):Int) then if (ltS (l.getD k (Va.dflt yar)).1 (l.getD (IntKind.i64.wrap ((k:Int)-1)).toNat (Va.dflt yar)).1||eqS (l.getD k (Va.dflt yar)).1 (l.getD (IntKind.i64.wrap ((k:Int)-1)).toNat (Va.dflt yar)).1)=true then some (false,()) else some (chk tagB (λa b=>ltS a.1 b.1) (prev l (k+1)) (l.drop (k+1)),()) else none else (some (chk tagB (λa b=>ltS a.1 b.1) (prev l (k+1)) (l.drop (k+1)),()):Option ybd.R)) =
          some ((if k=0 then true else ltS (l.getD (k-1) (Va.dflt yar)).1 (l.getD k (Va.dflt yar)).1)&&chk tagB (λa b=>ltS a.1 b.1) (prev l (k+1)) (l.drop (k+1)),()):=by
        by_cases h0:k=0
        · rw[if_neg (by simp;omega),if_pos h0];rfl
        · rw[if_pos (decide_eq_true (by omega)),if_neg h0,ybn (by omega),if_pos (show 0≤(k:Int)-1∧(k:Int)-1<((l.length:Nat):Int) from ⟨by omega,by omega⟩),show ((k:Int)-1).toNat=k-1 by omega,ltS_tri (l.getD (k-1) (Va.dflt yar)).1 (l.getD k (Va.dflt yar)).1]
          cases (ltS (l.getD k (Va.dflt yar)).1 (l.getD (k-1) (Va.dflt yar)).1||eqS (l.getD k (Va.dflt yar)).1 (l.getD (k-1) (Va.dflt yar)).1)<;>simp
      simp only[hy]
      unfold tagB
      cases decide (1≤(l.getD k (Va.dflt yar)).1.size)<;>cases decide ((l.getD k (Va.dflt yar)).1.size≤64)<;>cases decide ((l.getD k (Va.dflt yar)).2.1.size≤64)<;>cases cleanB (l.getD k (Va.dflt yar)).1<;>cases cleanB (l.getD k (Va.dflt yar)).2.1<;>simp
    · rw[if_neg (by simp;omega),chk_end (by omega)]
      rw[ybd.e4]
theorem tags38 {n:Nat}(hn:n≤536870912)(h5:5≤n){l:List (yaI)}(hl:TsB n l):ybd.f n l=some (tagsB l,()):=by
  have h:=tags38_J n hn h5 l hl n 0 (by omega) (by have:=hl.1;omega)
  rw[ybd.e0]
  unfold tagsB
  simp only[yaN,ycN]
  by_cases h8:l.length≤8
  · rw[if_neg (by simp;omega),decide_eq_true h8]
    exact h
  · rw[if_pos (decide_eq_true (by omega)),decide_eq_false h8];rfl
def allB {α:Type}(q:α→α→Bool):List α→List α→Bool
  | [],[]=>true
  | x::a,y::b=>q x y&&allB q a b
  | _,_=>false
theorem allB_len {α:Type}{q:α→α→Bool}:∀ (a b:List α),a.length≠b.length→allB q a b=false
  | [],[],h=>absurd rfl h
  | [],_::_,_=>rfl
  | _::_,[],_=>rfl
  | x::a,y::b,h=>by
    unfold allB
    rw[allB_len a b (by simp at h;omega),Bool.and_false]
theorem allB_step {α:Type}{q:α→α→Bool}{a b:List α}{k:Nat}(d:α)(ha:k<a.length)(hb:k<b.length):allB q (a.drop k) (b.drop k)=(q (a.getD k d) (b.getD k d)&&allB q (a.drop (k+1)) (b.drop (k+1))):=by
  rw[List.drop_eq_getElem_cons ha,List.drop_eq_getElem_cons hb]
  rw[List.getD_eq_getElem?_getD,List.getD_eq_getElem?_getD,List.getElem?_eq_getElem ha,List.getElem?_eq_getElem hb]
  rfl
theorem allB_end {α:Type}{q:α→α→Bool}{a b:List α}{k:Nat}(ha:a.length≤k)(hb:b.length≤k):allB q (a.drop k) (b.drop k)=true:=by
  rw[List.drop_eq_nil_of_le ha,List.drop_eq_nil_of_le hb];rfl
theorem ydF {α:Type}{q:α→α→Bool}:∀ (a:List α),(∀ x∈a,q x x=true)→allB q a a=true
  | [],_=>rfl
  | x::a,h=>by
    unfold allB
    rw[h x List.mem_cons_self,ydF a (λy hy=>h y (List.mem_cons_of_mem _ hy))];rfl
def sameT (a b:yaI):Bool:=eqS a.1 b.1&&eqS a.2.1 b.2.1
theorem sameT_refl (a:yaI):sameT a a=true:=by unfold sameT;rw[ycV,ycV];rfl
theorem same32_J (n:Nat)(hn:n≤536870912)(a b:List (yaI))(hab:a.length=b.length)(hl:a.length<n):∀ (m k:Nat),k≤a.length→a.length-k<m →
    ybv.J1 n m (a,b,(k:Int),())=some (allB sameT (a.drop k) (b.drop k),())
  | 0,k,_,h=>by omega
  | m + 1,k,hk,h=>by
    rw[ybv.e1]
    simp only[yaN,ycN,ycM,ybv.e2]
    by_cases hlt:k<a.length
    · have ih:=same32_J n hn a b hab hl m (k+1) (by omega) (by omega)
      have hg:(0≤(k:Int)∧(k:Int)<((a.length:Nat):Int)):=⟨by omega,by omega⟩
      have hg2:(0≤(k:Int)∧(k:Int)<((b.length:Nat):Int)):=⟨by omega,by omega⟩
      rw[if_pos (decide_eq_true (by omega))]
      simp only[if_pos hg,if_pos hg2,Int.toNat_natCast]
      rw[ybn (x:=(k:Int)+1) (by omega),show ((k:Int)+1)=((k+1:Nat):Int) by omega,ih,allB_step (Va.dflt yar) hlt (by omega)]
      have hx:sameT (a.getD k (Va.dflt yar)) (b.getD k (Va.dflt yar))=(eqS (a.getD k (Va.dflt yar)).1 (b.getD k (Va.dflt yar)).1&&eqS (a.getD k (Va.dflt yar)).2.1 (b.getD k (Va.dflt yar)).2.1):=rfl
      rw[hx]
      rcases Bool.eq_false_or_eq_true (eqS (a.getD k (Va.dflt yar)).1 (b.getD k (Va.dflt yar)).1) with h1 | h1<;>rcases Bool.eq_false_or_eq_true (eqS (a.getD k (Va.dflt yar)).2.1 (b.getD k (Va.dflt yar)).2.1) with h2 | h2<;>simp only[h1,h2]<;>rfl
    · rw[if_neg (by simp;omega),allB_end (by omega) (by omega)]
      rw[ybv.e3]
theorem same32 {n:Nat}(hn:n≤536870912){a b:List (yaI)}(ha:a.length<n):ybv.f n a b=some (allB sameT a b,()):=by
  rw[ybv.e0]
  simp only[yaN,ycN]
  by_cases h:a.length=b.length
  · rw[if_neg (by simp[h])]
    exact same32_J n hn a b h ha n 0 (by omega) (by omega)
  · rw[if_pos (by simp;omega),allB_len a b h]
def keyB (s:ByteArray):Bool:=decide (1≤s.size)&&(decide (s.size≤200)&&cleanB s)
theorem key24 {n:Nat}{s:ByteArray}(hs:s.size<n)(hn:n≤536870912):ycO.f n s=some (keyB s,()):=by
  rw[ycO.e0]
  unfold keyB
  rw[clean42 (by omega) hs,size0]
  simp only[yaN,ycN,bnd_some]
  have e1:decide ((s.size:Int)≤200)=decide (s.size≤200):=decide_eq_decide.2 (by omega)
  have e0:(!decide (s.size=0))=decide (1≤s.size):=by
    by_cases h0:s.size=0
    · rw[decide_eq_true h0,decide_eq_false (by omega)];rfl
    · rw[decide_eq_false h0,decide_eq_true (by omega)];rfl
  rw[e0,e1]
  cases decide (1≤s.size)<;>cases decide (s.size≤200)<;>simp
theorem key30 {n:Nat}{s:ByteArray}(hs:s.size<n)(hn:n≤536870912)(h5:5≤n):ycS.f n s=some (keyB s,()):=by
  rw[ycS.e0]
  unfold keyB
  rw[clean44 (by omega) hs h5]
  simp only[yaN,ycN,bnd_some]
  have e1:decide ((s.size:Int)≤200)=decide (s.size≤200):=decide_eq_decide.2 (by omega)
  have e0:decide ((s.size:Int)≥1)=decide (1≤s.size):=decide_eq_decide.2 (by omega)
  rw[e0,e1]
  cases decide (1≤s.size)<;>cases decide (s.size≤200)<;>simp
end Go.Proofs.YtemhlkdingkjnaaGreatDoor
namespace Go.Proofs.YtemhlkdingkjnaaGreatDoor
open Go Go.Va Go.Proofs
noncomputable section
namespace ycD
abbrev ia:List Ai:=[.dat yae]
abbrev io:List (Nat×Oi):=[(2,.dat .bool)]
abbrev R:Type:=DOut ia io
def X (n:Nat):Ctx:=⟨⟨tab,[ybZ.en n,ybz.en n,yda.en n],0,[]⟩,65,bnOf 0 ia⟩
abbrev g1:List Si:=[.ref 1 1 yae,.box 1 (.d yae)]
def T:CT:=(.s .o (.s .o (.r g1 .o)))
def J1 (n:Nat):yak×Unit→Option R:=jR (X n) n T (yau Tryz.f182) (endK ia io) g1 [1,1] []
def f (n:Nat)(v_:yak):Option R:=fRun (X n) n T Tryz.f182 ia io (v_,())
theorem e0 (n:Nat)(v_:yak):f n v_=bIf ((hide (v_.1==(0:Int)))) (some (false,())) (bnd (ybZ.f n v_.2.2.2.2.2.1) λu1=>bIf ((hide (v_.2.2.2.2.2.1 != u1.1))) (some (false,())) (J1 n (v_,()))):=(yac _).trans (by kernel_rfl)
theorem e1 (n:Nat)(v_:yak):J1 n (v_,())=bIf (v_.2.1) (bIf ((hide (v_.2.2.1==(0:Int)))) (bIf ((hide (v_.2.2.2.1==(0:Int)))) (bIf ((hide (eqD (.arr 32 (.int .u8)) v_.2.2.2.2.1 ([]++List.replicate (32-([]:List (Int)).length) 0)))) (bIf ((hide (eqD ycs v_.2.2.2.2.2.2.1 (0,(0,(false,())))))) (some ((hide (((v_.2.2.2.2.2.2.2.1.length:Nat):Int)==(0:Int))),())) (some (false,()))) (some (false,()))) (some (false,()))) (some (false,()))) (bIf ((hide (decide (v_.2.2.1≥(0:Int))))) (bIf ((hide (decide (v_.2.2.1≤(16384:Int))))) (bIf ((hide (decide (v_.2.2.2.1>(0:Int))))) (bnd (yda.f n v_.2.2.2.2.2.2.1) λu1=>bIf (u1.1) (bnd (ybz.f n v_.2.2.2.2.2.2.2.1) λu2=>some (u2.1,())) (some (false,()))) (some (false,()))) (some (false,()))) (some (false,()))):=(yac _).trans (by kernel_rfl)
theorem ok (n:Nat):FnOk Tryz.prog 182 ia io (fRun (X n) n T Tryz.f182 ia io):=yaA mixed tabIs (yaj (yai (ybZ.ok n)) (yaj (yai (ybz.ok n)) (yaj (yai (yda.ok n)) (yas)))) Tryz.func182 (by kernel_rfl) rfl
def en (n:Nat):Entry:=yaw 182 ia io (fRun (X n) n T Tryz.f182 ia io)
end ycD
namespace ybY
abbrev ia:List Ai:=[.dat yae]
abbrev io:List (Nat×Oi):=[(2,.dat .bool)]
abbrev R:Type:=DOut ia io
def X (n:Nat):Ctx:=⟨⟨tab,[yby.en n,ybd.en n,yc9.en n],0,[]⟩,82,bnOf 0 ia⟩
abbrev g1:List Si:=[.ref 1 1 yae,.box 1 (.d yae)]
abbrev g2:List Si:=[.ref 1 1 yae,.dat 3 (.int .i64),.box 1 (.d yae)]
abbrev g3:List Si:=[.ref 1 1 yae,.box 1 (.d yae)]
def T:CT:=(.s .o (.s .o (.r g1 (.s .o (.s (.s .o (.b (.l g2 .o))) (.r g3 .o))))))
def J1 (n:Nat):yak×Unit→Option R:=jR (X n) n T (yau Tryz.f133) (endK ia io) g1 [1,1] []
def J2 (n:Nat)(m:Nat):Int×yak×Unit→Option R:=jL (X n) n T (yau Tryz.f133) (endK ia io) g2 [1,1,1,0,1,0] [] m
def J3 (n:Nat):yak×Unit→Option R:=jR (X n) n T (yau Tryz.f133) (endK ia io) g3 [1,1,1,1] []
def f (n:Nat)(v_:yak):Option R:=fRun (X n) n T Tryz.f133 ia io (v_,())
theorem e0 (n:Nat)(v_:yak):f n v_=bIf ((hide (decide (v_.1<(1:Int))))) (some (false,())) (bnd (yby.f n v_.2.2.2.2.2.1) λu1=>bIf ((hide (u1.1 != v_.2.2.2.2.2.1))) (some (false,())) (J1 n (v_,()))):=(yac _).trans (by kernel_rfl)
theorem e1 (n:Nat)(v_:yak):J1 n (v_,())=bIf ((!v_.2.1)) (bIf ((hide (decide (v_.2.2.1≥(0:Int))))) (bIf ((hide (decide (v_.2.2.1≤(16384:Int))))) (bIf ((hide (decide (v_.2.2.2.1≥(1:Int))))) (bnd (yc9.f n v_.2.2.2.2.2.2.1) λu1=>bIf (u1.1) (bnd (ybd.f n v_.2.2.2.2.2.2.2.1) λu2=>some (u2.1,())) (some (false,()))) (some (false,()))) (some (false,()))) (some (false,()))) (J2 n n (0,v_,())):=(yac _).trans (by kernel_rfl)
theorem e2 (n m:Nat)(i:Int)(v_:yak):J2 n (m+1) (i,v_,())=bIf ((hide (decide (i<(32:Int))))) (gIf (0≤i∧i<((32:Nat):Int)) (bIf ((hide ((List.getD v_.2.2.2.2.1 i.toNat 0) != (0:Int)))) (some (false,())) (J2 n m ((IntKind.i64.wrap (i+(1:Int))),v_,())))) (J3 n (v_,())):=(yac _).trans (by kernel_rfl)
theorem e3 (n:Nat)(v_:yak):J3 n (v_,())=bIf ((hide (v_.2.2.1==(0:Int)))) (bIf ((hide (v_.2.2.2.1==(0:Int)))) (bIf ((hide (v_.2.2.2.2.2.2.1.1==(0:Int)))) (bIf ((hide (v_.2.2.2.2.2.2.1.2.1==(0:Int)))) (bIf ((!v_.2.2.2.2.2.2.1.2.2.1)) (some ((hide (((v_.2.2.2.2.2.2.2.1.length:Nat):Int)==(0:Int))),())) (some (false,()))) (some (false,()))) (some (false,()))) (some (false,()))) (some (false,())):=(yac _).trans (by kernel_rfl)
theorem ok (n:Nat):FnOk Tryz.prog 133 ia io (fRun (X n) n T Tryz.f133 ia io):=yaA mixed tabIs (yaj (yai (yby.ok n)) (yaj (yai (ybd.ok n)) (yaj (yai (yc9.ok n)) (yas)))) Tryz.func133 (by kernel_rfl) rfl
def en (n:Nat):Entry:=yaw 133 ia io (fRun (X n) n T Tryz.f133 ia io)
end ybY
namespace ya1
abbrev ia:List Ai:=[.dat yae,.dat yae]
abbrev io:List (Nat×Oi):=[(4,.dat .bool)]
abbrev R:Type:=DOut ia io
def X (n:Nat):Ctx:=⟨⟨tab,[ybv.en n],0,[]⟩,57,bnOf 0 ia⟩
abbrev g1:List Si:=[.ref 2 2 yae,.ref 3 3 yae,.box 2 (.d yae),.box 3 (.d yae)]
def T:CT:=(.s .o (.s .o (.r g1 .o)))
def J1 (n:Nat):yak×yak×Unit→Option R:=jR (X n) n T (yau Tryz.f21) (endK ia io) g1 [1,1] []
def f (n:Nat)(a:yak)(b:yak):Option R:=fRun (X n) n T Tryz.f21 ia io (a,b,())
theorem e0 (n:Nat)(a:yak)(b:yak):f n a b=bIf ((hide (a.1 != b.1))) (some (false,())) (bIf ((hide (!(a.2.1==b.2.1)))) (some (false,())) (bIf ((hide (a.2.2.1 != b.2.2.1))) (some (false,())) (bIf ((hide (a.2.2.2.1 != b.2.2.2.1))) (some (false,())) (bIf ((hide (a.2.2.2.2.2.1 != b.2.2.2.2.2.1))) (some (false,())) (bIf ((hide (!(eqD ycs a.2.2.2.2.2.2.1 b.2.2.2.2.2.2.1)))) (some (false,())) (J1 n (a,b,()))))))):=(yac _).trans (by kernel_rfl)
theorem e1 (n:Nat)(a:yak)(b:yak):J1 n (a,b,())=bIf ((hide (eqD (.arr 32 (.int .u8)) a.2.2.2.2.1 b.2.2.2.2.1))) (bnd (ybv.f n a.2.2.2.2.2.2.2.1 b.2.2.2.2.2.2.2.1) λu1=>some (u1.1,())) (some (false,())):=(yac _).trans (by kernel_rfl)
theorem ok (n:Nat):FnOk Tryz.prog 21 ia io (fRun (X n) n T Tryz.f21 ia io):=yaA mixed tabIs (yaj (yai (ybv.ok n)) (yas)) Tryz.func21 (by kernel_rfl) rfl
def en (n:Nat):Entry:=yaw 21 ia io (fRun (X n) n T Tryz.f21 ia io)
end ya1
end
end Go.Proofs.YtemhlkdingkjnaaGreatDoor
namespace Go.Proofs.YtemhlkdingkjnaaGreatDoor
open Go Go.Va Go.Proofs
abbrev Ver:Type:=yak
def mark (v:Ver):Bool:=v.2.1
def vsize (v:Ver):Int:=v.2.2.1
def blob (v:Ver):Int:=v.2.2.2.1
def dig (v:Ver):List Int:=v.2.2.2.2.1
def made (v:Ver):Int:=v.2.2.2.2.2.1
def lock (v:Ver):yc7:=v.2.2.2.2.2.2.1
def tags (v:Ver):List (yaI):=v.2.2.2.2.2.2.2.1
theorem z_pos (z:Int):decide (z>0)=decide (1≤z):=decide_eq_decide.2 (by omega)
theorem z_eq (z:Int)(h:0≤z):(z==0)=!decide (1≤z):=by
  by_cases h1:z=0
  · subst h1;rfl
  · rw[decide_eq_true (by omega),beq_false_of_ne h1];rfl
theorem z_lt (z:Int):decide (z<1)=!decide (1≤z):=by
  by_cases h:1≤z
  · rw[decide_eq_true h,decide_eq_false (by omega)];rfl
  · rw[decide_eq_false h,decide_eq_true (by omega)];rfl
theorem z_gt (x y:Int):decide (x>y)=!decide (x≤y):=by
  rw[← decide_not];exact decide_eq_decide.2 (by omega)
theorem z_ge2 (x y:Int):decide (x≥y)=!decide (x<y):=by
  rw[← decide_not];exact decide_eq_decide.2 (by omega)
def verB (v:Ver):Bool:=
  decide (1≤v.1)&&(decide (made v=ydH (made v)) &&
    if mark v=true then (vsize v==0)&&((blob v==0)&&((dig v).all (· == 0)&&(((lock v).1==0&&((lock v).2.1==0&&!(lock v).2.2.1))&&decide ((tags v).length=0))))
    else decide (0≤vsize v)&&(decide (vsize v≤16384)&&(decide (1≤blob v)&&(lockB (lock v)&&tagsB (tags v)))))
structure VB (n:Nat)(v:Ver):Prop where
  id:0≤v.1
  blob:0≤blob v
  dig:(dig v).length=32
  tags:TsB n (tags v)
theorem zeroD:∀ (k:Nat) (d:List Int),d.length=k→eqD (.arr k (.int .u8)) d (List.replicate k 0)=d.all (· == 0)
  | 0,[],_=>rfl
  | k+1,x::d,h=>by
    have ih:=zeroD k d (by simpa using h)
    change (decide (x=0)&&eqD (.arr k (.int .u8)) d (List.replicate k 0))=((x==0)&&d.all (· == 0))
    rw[ih];rfl
theorem ver18 {n:Nat} (hn:n≤536870912) {v:Ver} (hv:VB n v):ycD.f n v=some (verB v,()):=by
  rw[ycD.e0]
  simp only[yaN,ycN,clamp33,bnd_some]
  rw[ycD.e1]
  have ht:=tags35 hn hv.tags
  unfold tags at ht
  rw[lock34,ht]
  simp only[yaN,ycN,bnd_some]
  have hz:eqD (.arr 32 (.int .u8)) v.2.2.2.2.1 ([]++List.replicate (32-([]:List Int).length) 0)=(dig v).all (· == 0):=zeroD 32 _ hv.dig
  rw[hz]
  have hl:eqD ycs v.2.2.2.2.2.2.1 (0,(0,(false,())))=((lock v).1==0&&((lock v).2.1==0&&!(lock v).2.2.1)):=by
    change (decide ((lock v).1=0)&&(decide ((lock v).2.1=0)&&(((lock v).2.2.1==false)&&true)))=_
    cases (lock v).2.2.1<;>rfl
  rw[hl]
  have h0:=hv.id
  have hb:=hv.blob
  have e2:(((v.2.2.2.2.2.2.2.1.length:Nat):Int)==0)=decide ((tags v).length=0):=by
    change (((tags v).length:Int)==0)=_
    cases (tags v).length<;>rfl
  rw[e2]
  have e3:decide (v.2.2.2.1>0)=decide (1≤blob v):=z_pos (blob v)
  have e4:(v.1==0)=!decide (1≤v.1):=z_eq v.1 h0
  have e5:(v.2.2.2.2.2.1 != ydH v.2.2.2.2.2.1)=!decide (made v=ydH (made v)):=rfl
  simp only[e3,e4,e5]
  unfold verB
  change (if (!decide (1≤v.1))=true then _ else if (!decide (made v=ydH (made v)))=true then _ else if mark v=true then _ else _)=_
  cases decide (1≤v.1)
  · rfl
  · cases decide (made v=ydH (made v))
    · rfl
    · cases hm:mark v
      · change (if decide (0≤vsize v)=true then if decide (vsize v≤16384)=true then _ else _ else _)=_
        change (if decide (0≤vsize v)=true then if decide (vsize v≤16384)=true then if decide (1≤blob v)=true then if lockB (lock v)=true then some (tagsB (tags v),()) else some (false,()) else some (false,()) else some (false,()) else (some (false,()):Option ycD.R))=_
        cases decide (0≤vsize v)<;>cases decide (vsize v≤16384)<;>cases decide (1≤blob v)<;>cases lockB (lock v)<;>rfl
      · change (if (vsize v==0)=true then if (blob v==0)=true then if (dig v).all (· == 0)=true then if ((lock v).1==0&&((lock v).2.1==0&&!(lock v).2.2.1))=true then some (decide ((tags v).length=0),()) else some (false,()) else some (false,()) else some (false,()) else (some (false,()):Option ycD.R))=_
        cases (vsize v==0)<;>cases (blob v==0)<;>cases (dig v).all (· == 0)<;>cases ((lock v).1==0&&((lock v).2.1==0&&!(lock v).2.2.1))<;>rfl
def rest19 (v:Ver):Bool:=(vsize v==0)&&((blob v==0)&&(((lock v).1==0&&((lock v).2.1==0&&!(lock v).2.2.1))&&decide ((tags v).length=0)))
theorem rest19_eq (n:Nat)(v:Ver):ybY.J3 n (v,())=some (rest19 v,()):=by
  rw[ybY.e3]
  unfold rest19
  simp only[yaN,ycN]
  have e2:(((v.2.2.2.2.2.2.2.1.length:Nat):Int)==0)=decide ((tags v).length=0):=by
    change (((tags v).length:Int)==0)=_
    cases (tags v).length<;>rfl
  rw[e2]
  change (if (vsize v==0)=true then if (blob v==0)=true then if ((lock v).1==0)=true then if ((lock v).2.1==0)=true then if (!(lock v).2.2.1)=true then some (decide ((tags v).length=0),()) else some (false,()) else some (false,()) else some (false,()) else some (false,()) else (some (false,()):Option ybY.R))=_
  cases (vsize v==0)<;>cases (blob v==0)<;>cases ((lock v).1==0)<;>cases ((lock v).2.1==0)<;>cases (lock v).2.2.1<;>rfl
theorem dig19_J (n:Nat) (v:Ver) (hd:(dig v).length=32):∀ (m k:Nat),k≤32→32-k<m →
    ybY.J2 n m ((k:Int),v,())=some (((dig v).drop k).all (· == 0)&&rest19 v,())
  | 0,k,_,h=>by omega
  | m + 1,k,hk,h=>by
    rw[ybY.e2]
    simp only[yaN,ycN,ycM]
    by_cases hlt:k<32
    · have ih:=dig19_J n v hd m (k+1) (by omega) (by omega)
      rw[if_pos (decide_eq_true (by omega)),if_pos ⟨by omega,by omega⟩,Int.toNat_natCast,ybn (x:=(k:Int)+1) (by omega),show ((k:Int)+1)=((k+1:Nat):Int) by omega,ih]
      have hk':k<(dig v).length:=by rw[hd];exact hlt
      rw[List.drop_eq_getElem_cons hk',List.all_cons]
      have e4:List.getD v.2.2.2.2.1 k 0=(dig v)[k]'hk':=by
        change (dig v).getD k 0=_
        rw[List.getD_eq_getElem?_getD,List.getElem?_eq_getElem hk'];rfl
      rw[e4]
      cases hx:((dig v)[k]'hk'==0)
      · rw[if_pos (by simp[bne,hx])];rfl
      · rw[if_neg (by simp[bne,hx])];rfl
    · rw[if_neg (by simp;omega),rest19_eq,List.drop_eq_nil_of_le (by omega)]
      rfl
theorem ver19 {n:Nat} (hn:n≤536870912) (h5:40≤n) {v:Ver} (hv:VB n v):ybY.f n v=some (verB v,()):=by
  rw[ybY.e0]
  have hd:=dig19_J n v hv.dig n 0 (by omega) (by omega)
  simp only[yaN,ycN,clamp36,bnd_some]
  rw[ybY.e1]
  have ht:=tags38 hn (by omega) hv.tags
  unfold tags at ht
  rw[lock37,ht]
  simp only[yaN,ycN,bnd_some]
  have hd':ybY.J2 n n (0,v,())=some ((dig v).all (· == 0)&&rest19 v,()):=hd
  rw[hd']
  have e4:decide (v.1<1)=!decide (1≤v.1):=z_lt v.1
  have e5:(ydH v.2.2.2.2.2.1 != v.2.2.2.2.2.1)=!decide (made v=ydH (made v)):=by
    unfold bne;rw[BEq.comm];rfl
  simp only[e4,e5]
  unfold verB
  change (if (!decide (1≤v.1))=true then _ else if (!decide (made v=ydH (made v)))=true then _ else if (!mark v)=true then _ else _)=_
  cases decide (1≤v.1)
  · rfl
  · cases decide (made v=ydH (made v))
    · rfl
    · cases hm:mark v
      · change (if decide (0≤vsize v)=true then if decide (vsize v≤16384)=true then if decide (1≤blob v)=true then if lockB (lock v)=true then some (tagsB (tags v),()) else some (false,()) else some (false,()) else some (false,()) else (some (false,()):Option ybY.R))=_
        cases decide (0≤vsize v)<;>cases decide (vsize v≤16384)<;>cases decide (1≤blob v)<;>cases lockB (lock v)<;>rfl
      · change some ((dig v).all (· == 0)&&rest19 v,())=_
        unfold rest19
        cases (vsize v==0)<;>cases (blob v==0)<;>cases (dig v).all (· == 0)<;>cases ((lock v).1==0&&((lock v).2.1==0&&!(lock v).2.2.1))<;>rfl
def sameV (a b:Ver):Bool:=allB sameT (tags a) (tags b)&&((a.1==b.1)&&((mark a==mark b)&&((vsize a==vsize b)&&((blob a==blob b)&&(eqD (.arr 32 (.int .u8)) (dig a) (dig b)&&((made a==made b)&&eqD ycs (lock a) (lock b)))))))
theorem sameV17 {n:Nat}(hn:n≤536870912){a b:Ver}(ha:(tags a).length<n):ya1.f n a b=some (sameV a b,()):=by
  rw[ya1.e0]
  have h:=same32 (b:=tags b) hn ha
  unfold tags at h
  rw[ya1.e1]
  rw[h,bnd_some]
  simp only[yaN,ycN]
  unfold sameV
  change (if (!(a.1==b.1))=true then some (false,()) else if (!(mark a==mark b))=true then some (false,()) else if (!(vsize a==vsize b))=true then some (false,()) else if (!(blob a==blob b))=true then some (false,()) else if (!(made a==made b))=true then some (false,()) else if (!(eqD ycs (lock a) (lock b)))=true then some (false,()) else if eqD (.arr 32 (.int .u8)) (dig a) (dig b)=true then some (allB sameT (tags a) (tags b),()) else (some (false,()):Option ya1.R))=_
  cases allB sameT (tags a) (tags b)<;>cases (a.1==b.1)<;>cases (mark a==mark b)<;>cases (vsize a==vsize b)<;>cases (blob a==blob b)<;>cases eqD (.arr 32 (.int .u8)) (dig a) (dig b)<;>cases (made a==made b)<;>cases eqD ycs (lock a) (lock b)<;>rfl
theorem digRefl:∀ (d:List Int),eqD (.arr 32 (.int .u8)) d d=true
  | []=>rfl
  | x::d=>by
    have:=digRefl d
    change (decide (x=x)&&eqD (.arr 32 (.int .u8)) d d)=true
    rw[this,decide_eq_true rfl];rfl
theorem lockRefl (l:yc7):eqD ycs l l=true:=by
  change (decide (l.1=l.1)&&(decide (l.2.1=l.2.1)&&((l.2.2.1==l.2.2.1)&&true)))=true
  rw[decide_eq_true rfl,decide_eq_true rfl,beq_self_eq_true];rfl
theorem sameV_refl (a:Ver):sameV a a=true:=by
  unfold sameV
  rw[ydF _ (λx _=>sameT_refl x),digRefl,lockRefl]
  simp
end Go.Proofs.YtemhlkdingkjnaaGreatDoor
namespace Go.Proofs.YtemhlkdingkjnaaGreatDoor
open Go Go.Va Go.Proofs
noncomputable section
namespace ydu
abbrev ia:List Ai:=[.dat ya4]
abbrev io:List (Nat×Oi):=[(2,.dat .bool)]
abbrev R:Type:=DOut ia io
def X (n:Nat):Ctx:=⟨⟨tab,[],0,[]⟩,21,bnOf 0 ia⟩
abbrev g1:List Si:=[.ref 1 1 ya4,.dat 10 .bool,.box 1 (.d ya4)]
def T:CT:=(.s .o (.s (.s .o (.b (.s .o (.c .o (.s .o (.r g1 .o)))))) .o))
def J1 (n:Nat):Bool×ycH×Unit→Option R:=jR (X n) n T (yau Tryz.f102) (endK ia io) g1 [1,0,1,0,1,1,1] []
def f (n:Nat)(d:ycH):Option R:=fRun (X n) n T Tryz.f102 ia io (d,())
theorem e0 (n:Nat)(d:ycH):f n d=bIf ((hide (d.1==(0:Int)))) (some ((hide (d.2.1==(0:Int))),())) (bIf ((hide (d.1==(1:Int)))) (J1 n (true,d,())) (J1 n ((hide (d.1==(2:Int))),d,()))):=(yac _).trans (by kernel_rfl)
theorem e1 (n:Nat)(t10:Bool)(d:ycH):J1 n (t10,d,())=bIf (t10) (bIf ((hide (decide (d.2.1≥(1:Int))))) (some ((hide (decide (d.2.1≤(36500:Int)))),())) (some (false,()))) (some (false,())):=(yac _).trans (by kernel_rfl)
theorem ok (n:Nat):FnOk Tryz.prog 102 ia io (fRun (X n) n T Tryz.f102 ia io):=yaA mixed tabIs (yas) Tryz.func102 (by kernel_rfl) rfl
def en (n:Nat):Entry:=yaw 102 ia io (fRun (X n) n T Tryz.f102 ia io)
end ydu
namespace ydd
abbrev ia:List Ai:=[.dat ya4]
abbrev io:List (Nat×Oi):=[(2,.dat .bool)]
abbrev R:Type:=DOut ia io
def X (n:Nat):Ctx:=⟨⟨tab,[],0,[]⟩,27,bnOf 0 ia⟩
def T:CT := .o
def f (n:Nat)(d:ycH):Option R:=fRun (X n) n T Tryz.f44 ia io (d,())
theorem e0 (n:Nat)(d:ycH):f n d=bIf ((hide (d.1==(0:Int)))) (some ((hide (d.2.1==(0:Int))),())) (bIf ((hide (d.1==(1:Int)))) (bIf ((hide (decide (d.2.1≥(1:Int))))) (some ((hide (decide (d.2.1≤(36500:Int)))),())) (some (false,()))) (bIf ((hide (d.1==(2:Int)))) (bIf ((hide (decide (d.2.1≥(1:Int))))) (some ((hide (decide (d.2.1≤(36500:Int)))),())) (some (false,()))) (some (false,())))):=(yac _).trans (by kernel_rfl)
theorem ok (n:Nat):FnOk Tryz.prog 44 ia io (fRun (X n) n T Tryz.f44 ia io):=yaA mixed tabIs (yas) Tryz.func44 (by kernel_rfl) rfl
def en (n:Nat):Entry:=yaw 44 ia io (fRun (X n) n T Tryz.f44 ia io)
end ydd
namespace ybQ
abbrev ia:List Ai:=[.dat .str]
abbrev io:List (Nat×Oi):=[(2,.val (.r 0 yce)),(3,.dat .bool)]
abbrev R:Type:=DOut ia io
def X (n:Nat):Ctx:=⟨⟨tab,[],0,[]⟩,46,bnOf 0 ia⟩
abbrev g1:List Si:=[.dat 0 .str,.val 4 (.r 200400 yce),.dat 5 (.int .i64)]
abbrev g2:List Si:=[.dat 0 .str,.val 4 (.r 200400 yce),.dat 5 (.int .i64)]
abbrev g3:List Si:=[.dat 0 .str,.val 4 (.r 200400 yce),.dat 5 (.int .i64)]
abbrev g4:List Si:=[.val 4 (.r 200400 yce)]
def T:CT:=(.s .o (.s .o (.s .o (.s (.s .o (.b (.l g1 (.s .o (.s (.b (.s .o (.b (.s .o (.r g2 .o))))) (.r g3 .o)))))) (.r g4 .o)))))
def J1 (n:Nat)(m:Nat):ByteArray×(List (ya2))×Int×Unit→Option R:=jL (X n) n T (yau Tryz.f214) (endK ia io) g1 [1,1,1,0,1,0] [] m
def J2 (n m1:Nat):ByteArray×(List (ya2))×Int×Unit→Option R:=jR (X n) n T (yau Tryz.f214) (endK ia io) g2 [1,1,1,0,1,0,0,1,0,0,1,0,1] [m1]
def J3 (n m1:Nat):ByteArray×(List (ya2))×Int×Unit→Option R:=jR (X n) n T (yau Tryz.f214) (endK ia io) g3 [1,1,1,0,1,0,0,1,1] [m1]
def J4 (n:Nat):(List (ya2))×Unit→Option R:=jR (X n) n T (yau Tryz.f214) (endK ia io) g4 [1,1,1,1] []
def f (n:Nat)(p:ByteArray):Option R:=fRun (X n) n T Tryz.f214 ia io (p,())
theorem e0 (n:Nat)(p:ByteArray):f n p=bIf ((hide (decide ((p.size:Int)>(200:Int))))) (some ([],false,())) (J1 n n (p,[],0,())):=(yac _).trans (by kernel_rfl)
theorem e1 (n m:Nat)(p:ByteArray)(out:List (ya2))(i:Int):J1 n (m+1) (p,out,i,())=bIf ((hide (decide (i<(p.size:Int))))) (gIf (0≤i∧i<(p.size:Int)) (bIf ((hide ((bt p i)==(42:Int)))) (gIf ((out.length+1)*16≤70368744177664) (J3 n m (p,(out++([(2,(0,()))]:List (ya2))),i,()))) (bIf ((hide ((bt p i)==(63:Int)))) (gIf ((out.length+1)*16≤70368744177664) (J3 n m (p,(out++([(1,(0,()))]:List (ya2))),i,()))) (bIf ((hide ((bt p i)==(92:Int)))) (bIf ((hide ((IntKind.i64.wrap (i+(1:Int)))==(p.size:Int)))) (some ([],false,())) (J2 n m (p,out,(IntKind.i64.wrap (i+(1:Int))),()))) (J2 n m (p,out,i,())))))) (J4 n (out,())):=(yac _).trans (by kernel_rfl)
theorem e2 (n m1:Nat)(p:ByteArray)(out:List (ya2))(i:Int):J2 n m1 (p,out,i,())=gIf (0≤i∧i<(p.size:Int)) (gIf ((out.length+1)*16≤70368744177664) (J3 n m1 (p,(out++([(0,((bt p i),()))]:List (ya2))),i,()))):=(yac _).trans (by kernel_rfl)
theorem e3 (n m1:Nat)(p:ByteArray)(out:List (ya2))(i:Int):J3 n m1 (p,out,i,())=J1 n m1 (p,out,(IntKind.i64.wrap (i+(1:Int))),()):=(yac _).trans (by kernel_rfl)
theorem e4 (n:Nat)(out:List (ya2)):J4 n (out,())=some (out,true,()):=(yac _).trans (by kernel_rfl)
theorem ok (n:Nat):FnOk Tryz.prog 214 ia io (fRun (X n) n T Tryz.f214 ia io):=yaA mixed tabIs (yas) Tryz.func214 (by kernel_rfl) rfl
def en (n:Nat):Entry:=yaw 214 ia io (fRun (X n) n T Tryz.f214 ia io)
end ybQ
namespace ycZ
abbrev ia:List Ai:=[.dat .str]
abbrev io:List (Nat×Oi):=[(2,.dat .bool)]
abbrev R:Type:=DOut ia io
def X (n:Nat):Ctx:=⟨⟨tab,[ybQ.en n],0,[]⟩,11,bnOf 0 ia⟩
def T:CT := .o
def f (n:Nat)(p:ByteArray):Option R:=fRun (X n) n T Tryz.f168 ia io (p,())
theorem e0 (n:Nat)(p:ByteArray):f n p=bnd (ybQ.f n p) λu1=>some (u1.2.1,()):=(yac _).trans (by kernel_rfl)
theorem ok (n:Nat):FnOk Tryz.prog 168 ia io (fRun (X n) n T Tryz.f168 ia io):=yaA mixed tabIs (yaj (yai (ybQ.ok n)) (yas)) Tryz.func168 (by kernel_rfl) rfl
def en (n:Nat):Entry:=yaw 168 ia io (fRun (X n) n T Tryz.f168 ia io)
end ycZ
namespace ybW
abbrev ia:List Ai:=[.dat .str]
abbrev io:List (Nat×Oi):=[(2,.val (.r 0 yce)),(3,.dat .bool)]
abbrev R:Type:=DOut ia io
def X (n:Nat):Ctx:=⟨⟨tab,[],0,[]⟩,57,bnOf 0 ia⟩
abbrev g1:List Si:=[.dat 0 .str,.val 4 (.r 200400 yce),.dat 5 (.int .i64)]
abbrev g2:List Si:=[.dat 0 .str,.val 4 (.r 200400 yce),.dat 5 (.int .i64)]
abbrev g3:List Si:=[.val 4 (.r 200400 yce)]
def T:CT:=(.s .o (.s .o (.s .o (.s (.s .o (.b (.l g1 (.s .o (.s .o (.r g2 .o)))))) (.r g3 .o)))))
def J1 (n:Nat)(m:Nat):ByteArray×(List (ya2))×Int×Unit→Option R:=jL (X n) n T (yau Tryz.f132) (endK ia io) g1 [1,1,1,0,1,0] [] m
def J2 (n m1:Nat):ByteArray×(List (ya2))×Int×Unit→Option R:=jR (X n) n T (yau Tryz.f132) (endK ia io) g2 [1,1,1,0,1,0,0,1,1] [m1]
def J3 (n:Nat):(List (ya2))×Unit→Option R:=jR (X n) n T (yau Tryz.f132) (endK ia io) g3 [1,1,1,1] []
def f (n:Nat)(p:ByteArray):Option R:=fRun (X n) n T Tryz.f132 ia io (p,())
theorem e0 (n:Nat)(p:ByteArray):f n p=bIf ((hide (decide ((p.size:Int)>(200:Int))))) (some (([]:List (ya2)),false,())) (J1 n n (p,([]:List (ya2)),0,())):=(yac _).trans (by kernel_rfl)
theorem e1 (n m:Nat)(p:ByteArray)(out:List (ya2))(i:Int):J1 n (m+1) (p,out,i,())=bIf ((hide (decide (i<(p.size:Int))))) (gIf (0≤i∧i<(p.size:Int)) (bIf ((hide ((bt p i)==(42:Int)))) (gIf ((out.length+1)*16≤70368744177664) (J2 n m (p,(out++([(2,(0,()))]:List (ya2))),i,()))) (bIf ((hide ((bt p i)==(63:Int)))) (gIf ((out.length+1)*16≤70368744177664) (J2 n m (p,(out++([(1,(0,()))]:List (ya2))),i,()))) (bIf ((hide ((bt p i)==(92:Int)))) (bIf ((hide (i==(IntKind.i64.wrap ((p.size:Int)-(1:Int)))))) (some (out,false,())) (gIf (0≤(IntKind.i64.wrap (i+(1:Int)))∧(IntKind.i64.wrap (i+(1:Int)))<(p.size:Int)) (gIf ((out.length+1)*16≤70368744177664) (J2 n m (p,(out++([(0,((bt p (IntKind.i64.wrap (i+(1:Int)))),()))]:List (ya2))),(IntKind.i64.wrap (i+(1:Int))),()))))) (gIf (0≤i∧i<(p.size:Int)) (gIf ((out.length+1)*16≤70368744177664) (J2 n m (p,(out++([(0,((bt p i),()))]:List (ya2))),i,())))))))) (J3 n (out,())):=(yac _).trans (by kernel_rfl)
theorem e2 (n m1:Nat)(p:ByteArray)(out:List (ya2))(i:Int):J2 n m1 (p,out,i,())=J1 n m1 (p,out,(IntKind.i64.wrap (i+(1:Int))),()):=(yac _).trans (by kernel_rfl)
theorem e3 (n:Nat)(out:List (ya2)):J3 n (out,())=some (out,true,()):=(yac _).trans (by kernel_rfl)
theorem ok (n:Nat):FnOk Tryz.prog 132 ia io (fRun (X n) n T Tryz.f132 ia io):=yaA mixed tabIs (yas) Tryz.func132 (by kernel_rfl) rfl
def en (n:Nat):Entry:=yaw 132 ia io (fRun (X n) n T Tryz.f132 ia io)
end ybW
namespace ycJ
abbrev ia:List Ai:=[.dat .str]
abbrev io:List (Nat×Oi):=[(2,.dat .bool)]
abbrev R:Type:=DOut ia io
def X (n:Nat):Ctx:=⟨⟨tab,[ybW.en n],0,[]⟩,11,bnOf 0 ia⟩
def T:CT := .o
def f (n:Nat)(p:ByteArray):Option R:=fRun (X n) n T Tryz.f86 ia io (p,())
theorem e0 (n:Nat)(p:ByteArray):f n p=bnd (ybW.f n p) λu1=>some (u1.2.1,()):=(yac _).trans (by kernel_rfl)
theorem ok (n:Nat):FnOk Tryz.prog 86 ia io (fRun (X n) n T Tryz.f86 ia io):=yaA mixed tabIs (yaj (yai (ybW.ok n)) (yas)) Tryz.func86 (by kernel_rfl) rfl
def en (n:Nat):Entry:=yaw 86 ia io (fRun (X n) n T Tryz.f86 ia io)
end ycJ
namespace ydr
abbrev ia:List Ai:=[.dat yaK]
abbrev io:List (Nat×Oi):=[(2,.dat .bool)]
abbrev R:Type:=DOut ia io
def X (n:Nat):Ctx:=⟨⟨tab,[],0,[]⟩,26,bnOf 0 ia⟩
def T:CT := .o
def f (n:Nat)(p:yaJ):Option R:=fRun (X n) n T Tryz.f178 ia io (p,())
theorem e0 (n:Nat)(p:yaJ):f n p=bIf ((hide (decide (p.1≥(1:Int))))) (bIf ((hide (decide (p.1≤(10000:Int))))) (bIf ((hide (decide (p.2.1≥(0:Int))))) (bIf ((hide (decide (p.2.1≤(1024:Int))))) (some ((hide (decide (p.2.2.1>(0:Int)))),())) (some (false,()))) (some (false,()))) (some (false,()))) (some (false,())):=(yac _).trans (by kernel_rfl)
theorem ok (n:Nat):FnOk Tryz.prog 178 ia io (fRun (X n) n T Tryz.f178 ia io):=yaA mixed tabIs (yas) Tryz.func178 (by kernel_rfl) rfl
def en (n:Nat):Entry:=yaw 178 ia io (fRun (X n) n T Tryz.f178 ia io)
end ydr
namespace ydo
abbrev ia:List Ai:=[.dat yaK]
abbrev io:List (Nat×Oi):=[(2,.dat .bool)]
abbrev R:Type:=DOut ia io
def X (n:Nat):Ctx:=⟨⟨tab,[],0,[]⟩,26,bnOf 0 ia⟩
def T:CT := .o
def f (n:Nat)(p:yaJ):Option R:=fRun (X n) n T Tryz.f89 ia io (p,())
theorem e0 (n:Nat)(p:yaJ):f n p=bIf ((hide (decide (p.1≥(1:Int))))) (bIf ((hide (decide (p.1≤(10000:Int))))) (bIf ((hide (decide (p.2.1≥(0:Int))))) (bIf ((hide (decide (p.2.1≤(1024:Int))))) (some ((hide (decide (p.2.2.1≥(1:Int)))),())) (some (false,()))) (some (false,()))) (some (false,()))) (some (false,())):=(yac _).trans (by kernel_rfl)
theorem ok (n:Nat):FnOk Tryz.prog 89 ia io (fRun (X n) n T Tryz.f89 ia io):=yaA mixed tabIs (yas) Tryz.func89 (by kernel_rfl) rfl
def en (n:Nat):Entry:=yaw 89 ia io (fRun (X n) n T Tryz.f89 ia io)
end ydo
namespace ydn
abbrev ia:List Ai:=[.dat yav]
abbrev io:List (Nat×Oi):=[(2,.dat .bool)]
abbrev R:Type:=DOut ia io
def X (n:Nat):Ctx:=⟨⟨tab,[ybz.en n,ybh.en n],0,[]⟩,37,bnOf 0 ia⟩
def T:CT := .o
def f (n:Nat)(r:yaE):Option R:=fRun (X n) n T Tryz.f165 ia io (r,())
theorem e0 (n:Nat)(r:yaE):f n r=bIf ((hide (decide ((r.1.size:Int)≤(200:Int))))) (bnd (ybh.f n r.1) λu1=>bIf (u1.1) (bnd (ybz.f n r.2.1) λu2=>bIf (u2.1) (bIf ((hide (decide (r.2.2.1≥(0:Int))))) (bIf ((hide (decide (r.2.2.1≤(36500:Int))))) (bIf ((hide (decide (r.2.2.2.1≥(0:Int))))) (some ((hide (decide (r.2.2.2.1≤(36500:Int)))),())) (some (false,()))) (some (false,()))) (some (false,()))) (some (false,()))) (some (false,()))) (some (false,())):=(yac _).trans (by kernel_rfl)
theorem ok (n:Nat):FnOk Tryz.prog 165 ia io (fRun (X n) n T Tryz.f165 ia io):=yaA mixed tabIs (yaj (yai (ybz.ok n)) (yaj (yai (ybh.ok n)) (yas))) Tryz.func165 (by kernel_rfl) rfl
def en (n:Nat):Entry:=yaw 165 ia io (fRun (X n) n T Tryz.f165 ia io)
end ydn
namespace yc3
abbrev ia:List Ai:=[.dat yav]
abbrev io:List (Nat×Oi):=[(2,.dat .bool)]
abbrev R:Type:=DOut ia io
def X (n:Nat):Ctx:=⟨⟨tab,[ydn.en n],0,[]⟩,6,bnOf 0 ia⟩
def T:CT := .o
def f (n:Nat)(r:yaE):Option R:=fRun (X n) n T Tryz.f164 ia io (r,())
theorem e0 (n:Nat)(r:yaE):f n r=bnd (ydn.f n r) λu1=>some ((!u1.1),()):=(yac _).trans (by kernel_rfl)
theorem ok (n:Nat):FnOk Tryz.prog 164 ia io (fRun (X n) n T Tryz.f164 ia io):=yaA mixed tabIs (yaj (yai (ydn.ok n)) (yas)) Tryz.func164 (by kernel_rfl) rfl
def en (n:Nat):Entry:=yaw 164 ia io (fRun (X n) n T Tryz.f164 ia io)
end yc3
namespace ybb
abbrev ia:List Ai:=[.dat (.slice yav),.fn (.fn 164) []]
abbrev io:List (Nat×Oi):=[(4,.dat (.int .i64))]
abbrev R:Type:=DOut ia io
def X (n:Nat):Ctx:=⟨⟨tab,[yc3.en n],0,[]⟩,19,bnOf 0 ia⟩
abbrev g1:List Si:=[.dat 0 (.slice yav),.clo 1 (.fn 164) [],.dat 7 (.int .i64),.dat 8 (.int .i64)]
abbrev g2:List Si:=[]
def T:CT:=(.s .o (.s (.s .o (.b (.l g1 .o))) (.r g2 .o)))
def J1 (n:Nat)(m:Nat):(List (yaE))×Int×Int×Unit→Option R:=jL (X n) n T (yau Tryz.f212) (endK ia io) g1 [1,0,1,0] [] m
def J2 (n:Nat):Unit→Option R:=jR (X n) n T (yau Tryz.f212) (endK ia io) g2 [1,1] []
def f (n:Nat)(s_:List (yaE)):Option R:=fRun (X n) n T Tryz.f212 ia io (s_,())
theorem e0 (n:Nat)(s_:List (yaE)):f n s_=J1 n n (s_,((s_.length:Nat):Int),0,()):=(yac _).trans (by kernel_rfl)
theorem e1 (n m:Nat)(s_:List (yaE))(t7:Int)(t8:Int):J1 n (m+1) (s_,t7,t8,())=bIf ((hide (decide (t8<t7)))) (gIf (0≤t8∧t8<((s_.length:Nat):Int)) (bnd (yc3.f n (List.getD s_ t8.toNat (Va.dflt yav))) λu1=>bIf (u1.1) (some (t8,())) (J1 n m (s_,t7,(IntKind.i64.wrap (t8+(1:Int))),())))) (J2 n (())):=(yac _).trans (by kernel_rfl)
theorem e2 (n:Nat):J2 n (())=some ((-1),()):=(yac _).trans (by kernel_rfl)
theorem ok (n:Nat):FnOk Tryz.prog 212 ia io (fRun (X n) n T Tryz.f212 ia io):=yaA mixed tabIs (yaj (yai (yc3.ok n)) (yas)) Tryz.func212 (by kernel_rfl) rfl
def en (n:Nat):Entry:=yaw 212 ia io (fRun (X n) n T Tryz.f212 ia io)
end ybb
namespace ybx
abbrev ia:List Ai:=[.dat (.slice yav),.fn (.fn 164) []]
abbrev io:List (Nat×Oi):=[(4,.dat .bool)]
abbrev R:Type:=DOut ia io
def X (n:Nat):Ctx:=⟨⟨tab,[ybb.en n],0,[]⟩,9,bnOf 0 ia⟩
def T:CT := .o
def f (n:Nat)(s_:List (yaE)):Option R:=fRun (X n) n T Tryz.f163 ia io (s_,())
theorem e0 (n:Nat)(s_:List (yaE)):f n s_=bnd (ybb.f n s_) λu1=>some ((hide (decide (u1.1≥(0:Int)))),()):=(yac _).trans (by kernel_rfl)
theorem ok (n:Nat):FnOk Tryz.prog 163 ia io (fRun (X n) n T Tryz.f163 ia io):=yaA mixed tabIs (yaj (yai (ybb.ok n)) (yas)) Tryz.func163 (by kernel_rfl) rfl
def en (n:Nat):Entry:=yaw 163 ia io (fRun (X n) n T Tryz.f163 ia io)
end ybx
namespace ydc
abbrev ia:List Ai:=[.dat (.slice yav)]
abbrev io:List (Nat×Oi):=[(2,.dat .bool)]
abbrev R:Type:=DOut ia io
def X (n:Nat):Ctx:=⟨⟨tab,[ybx.en n],0,[]⟩,11,bnOf 0 ia⟩
def T:CT := .o
def f (n:Nat)(list:List (yaE)):Option R:=fRun (X n) n T Tryz.f103 ia io (list,())
theorem e0 (n:Nat)(list:List (yaE)):f n list=bIf ((hide (decide (((list.length:Nat):Int)≤(8:Int))))) (bnd (ybx.f n list) λu1=>some ((!u1.1),())) (some (false,())):=(yac _).trans (by kernel_rfl)
theorem ok (n:Nat):FnOk Tryz.prog 103 ia io (fRun (X n) n T Tryz.f103 ia io):=yaA mixed tabIs (yaj (yai (ybx.ok n)) (yas)) Tryz.func103 (by kernel_rfl) rfl
def en (n:Nat):Entry:=yaw 103 ia io (fRun (X n) n T Tryz.f103 ia io)
end ydc
namespace yb8
abbrev ia:List Ai:=[.dat (.slice yav)]
abbrev io:List (Nat×Oi):=[(2,.dat .bool)]
abbrev R:Type:=DOut ia io
def X (n:Nat):Ctx:=⟨⟨tab,[yat.en n,ybd.en n],0,[]⟩,54,bnOf 0 ia⟩
abbrev g1:List Si:=[.dat 0 (.slice yav),.dat 3 (.int .i64)]
abbrev g2:List Si:=[.dat 0 (.slice yav),.dat 3 (.int .i64)]
abbrev g3:List Si:=[]
def T:CT:=(.s .o (.s .o (.s (.s .o (.b (.l g1 (.s .o (.s .o (.r g2 .o)))))) (.r g3 .o))))
def J1 (n:Nat)(m:Nat):(List (yaE))×Int×Unit→Option R:=jL (X n) n T (yau Tryz.f45) (endK ia io) g1 [1,1,0,1,0] [] m
def J2 (n m1:Nat):(List (yaE))×Int×Unit→Option R:=jR (X n) n T (yau Tryz.f45) (endK ia io) g2 [1,1,0,1,0,0,1,1] [m1]
def J3 (n:Nat):Unit→Option R:=jR (X n) n T (yau Tryz.f45) (endK ia io) g3 [1,1,1] []
def f (n:Nat)(l:List (yaE)):Option R:=fRun (X n) n T Tryz.f45 ia io (l,())
theorem e0 (n:Nat)(l:List (yaE)):f n l=bIf ((hide (decide (((l.length:Nat):Int)>(8:Int))))) (some (false,())) (J1 n n (l,0,())):=(yac _).trans (by kernel_rfl)
theorem e1 (n m:Nat)(l:List (yaE))(i:Int):J1 n (m+1) (l,i,())=bIf ((hide (decide (i<((l.length:Nat):Int))))) (gIf (0≤i∧i<((l.length:Nat):Int)) (bIf ((hide (decide ((((List.getD l i.toNat (Va.dflt yav)).1).size:Int)>(200:Int))))) (some (false,())) (bnd (yat.f n ((List.getD l i.toNat (Va.dflt yav)).1)) λu1=>bIf ((!u1.1)) (some (false,())) (bnd (ybd.f n (((List.getD l i.toNat (Va.dflt yav)).2).1)) λu2=>bIf ((!u2.1)) (some (false,())) (bIf ((hide (decide (((((List.getD l i.toNat (Va.dflt yav)).2).2).1)<(0:Int))))) (some (false,())) (bIf ((hide (decide (((((List.getD l i.toNat (Va.dflt yav)).2).2).1)>(36500:Int))))) (some (false,())) (bIf ((hide (decide ((((((List.getD l i.toNat (Va.dflt yav)).2).2).2).1)<(0:Int))))) (some (false,())) (bIf ((hide (decide ((((((List.getD l i.toNat (Va.dflt yav)).2).2).2).1)>(36500:Int))))) (some (false,())) (J2 n m (l,i,())))))))))) (J3 n (())):=(yac _).trans (by kernel_rfl)
theorem e2 (n m1:Nat)(l:List (yaE))(i:Int):J2 n m1 (l,i,())=J1 n m1 (l,(IntKind.i64.wrap (i+(1:Int))),()):=(yac _).trans (by kernel_rfl)
theorem e3 (n:Nat):J3 n (())=some (true,()):=(yac _).trans (by kernel_rfl)
theorem ok (n:Nat):FnOk Tryz.prog 45 ia io (fRun (X n) n T Tryz.f45 ia io):=yaA mixed tabIs (yaj (yai (yat.ok n)) (yaj (yai (ybd.ok n)) (yas))) Tryz.func45 (by kernel_rfl) rfl
def en (n:Nat):Entry:=yaw 45 ia io (fRun (X n) n T Tryz.f45 ia io)
end yb8
namespace ycQ
abbrev ia:List Ai:=[.dat yaC]
abbrev io:List (Nat×Oi):=[(2,.dat .bool)]
abbrev R:Type:=DOut ia io
def X (n:Nat):Ctx:=⟨⟨tab,[ycZ.en n],0,[]⟩,19,bnOf 0 ia⟩
def T:CT := .o
def f (n:Nat)(g:yaH):Option R:=fRun (X n) n T Tryz.f167 ia io (g,())
theorem e0 (n:Nat)(g:yaH):f n g=bnd (ycZ.f n g.2.1) λu1=>bIf ((!u1.1)) (some (true,())) (bnd (ycZ.f n g.2.2.1) λu2=>bIf ((!u2.1)) (some (true,())) (bnd (ycZ.f n g.2.2.2.1) λu3=>some ((!u3.1),()))):=(yac _).trans (by kernel_rfl)
theorem ok (n:Nat):FnOk Tryz.prog 167 ia io (fRun (X n) n T Tryz.f167 ia io):=yaA mixed tabIs (yaj (yai (ycZ.ok n)) (yas)) Tryz.func167 (by kernel_rfl) rfl
def en (n:Nat):Entry:=yaw 167 ia io (fRun (X n) n T Tryz.f167 ia io)
end ycQ
namespace ya8
abbrev ia:List Ai:=[.dat (.slice yaC),.fn (.fn 167) []]
abbrev io:List (Nat×Oi):=[(4,.dat (.int .i64))]
abbrev R:Type:=DOut ia io
def X (n:Nat):Ctx:=⟨⟨tab,[ycQ.en n],0,[]⟩,19,bnOf 0 ia⟩
abbrev g1:List Si:=[.dat 0 (.slice yaC),.clo 1 (.fn 167) [],.dat 7 (.int .i64),.dat 8 (.int .i64)]
abbrev g2:List Si:=[]
def T:CT:=(.s .o (.s (.s .o (.b (.l g1 .o))) (.r g2 .o)))
def J1 (n:Nat)(m:Nat):(List (yaH))×Int×Int×Unit→Option R:=jL (X n) n T (yau Tryz.f213) (endK ia io) g1 [1,0,1,0] [] m
def J2 (n:Nat):Unit→Option R:=jR (X n) n T (yau Tryz.f213) (endK ia io) g2 [1,1] []
def f (n:Nat)(s_:List (yaH)):Option R:=fRun (X n) n T Tryz.f213 ia io (s_,())
theorem e0 (n:Nat)(s_:List (yaH)):f n s_=J1 n n (s_,((s_.length:Nat):Int),0,()):=(yac _).trans (by kernel_rfl)
theorem e1 (n m:Nat)(s_:List (yaH))(t7:Int)(t8:Int):J1 n (m+1) (s_,t7,t8,())=bIf ((hide (decide (t8<t7)))) (gIf (0≤t8∧t8<((s_.length:Nat):Int)) (bnd (ycQ.f n (List.getD s_ t8.toNat (Va.dflt yaC))) λu1=>bIf (u1.1) (some (t8,())) (J1 n m (s_,t7,(IntKind.i64.wrap (t8+(1:Int))),())))) (J2 n (())):=(yac _).trans (by kernel_rfl)
theorem e2 (n:Nat):J2 n (())=some ((-1),()):=(yac _).trans (by kernel_rfl)
theorem ok (n:Nat):FnOk Tryz.prog 213 ia io (fRun (X n) n T Tryz.f213 ia io):=yaA mixed tabIs (yaj (yai (ycQ.ok n)) (yas)) Tryz.func213 (by kernel_rfl) rfl
def en (n:Nat):Entry:=yaw 213 ia io (fRun (X n) n T Tryz.f213 ia io)
end ya8
namespace ybu
abbrev ia:List Ai:=[.dat (.slice yaC),.fn (.fn 167) []]
abbrev io:List (Nat×Oi):=[(4,.dat .bool)]
abbrev R:Type:=DOut ia io
def X (n:Nat):Ctx:=⟨⟨tab,[ya8.en n],0,[]⟩,9,bnOf 0 ia⟩
def T:CT := .o
def f (n:Nat)(s_:List (yaH)):Option R:=fRun (X n) n T Tryz.f166 ia io (s_,())
theorem e0 (n:Nat)(s_:List (yaH)):f n s_=bnd (ya8.f n s_) λu1=>some ((hide (decide (u1.1≥(0:Int)))),()):=(yac _).trans (by kernel_rfl)
theorem ok (n:Nat):FnOk Tryz.prog 166 ia io (fRun (X n) n T Tryz.f166 ia io):=yaA mixed tabIs (yaj (yai (ya8.ok n)) (yas)) Tryz.func166 (by kernel_rfl) rfl
def en (n:Nat):Entry:=yaw 166 ia io (fRun (X n) n T Tryz.f166 ia io)
end ybu
namespace ycX
abbrev ia:List Ai:=[.dat (.slice yaC)]
abbrev io:List (Nat×Oi):=[(2,.dat .bool)]
abbrev R:Type:=DOut ia io
def X (n:Nat):Ctx:=⟨⟨tab,[ybu.en n],0,[]⟩,11,bnOf 0 ia⟩
def T:CT := .o
def f (n:Nat)(list:List (yaH)):Option R:=fRun (X n) n T Tryz.f104 ia io (list,())
theorem e0 (n:Nat)(list:List (yaH)):f n list=bIf ((hide (decide (((list.length:Nat):Int)≤(8:Int))))) (bnd (ybu.f n list) λu1=>some ((!u1.1),())) (some (false,())):=(yac _).trans (by kernel_rfl)
theorem ok (n:Nat):FnOk Tryz.prog 104 ia io (fRun (X n) n T Tryz.f104 ia io):=yaA mixed tabIs (yaj (yai (ybu.ok n)) (yas)) Tryz.func104 (by kernel_rfl) rfl
def en (n:Nat):Entry:=yaw 104 ia io (fRun (X n) n T Tryz.f104 ia io)
end ycX
namespace ybM
abbrev ia:List Ai:=[.dat (.slice yaC)]
abbrev io:List (Nat×Oi):=[(2,.dat .bool)]
abbrev R:Type:=DOut ia io
def X (n:Nat):Ctx:=⟨⟨tab,[ycJ.en n],0,[]⟩,38,bnOf 0 ia⟩
abbrev g1:List Si:=[.dat 0 (.slice yaC),.dat 3 (.int .i64)]
abbrev g2:List Si:=[.dat 0 (.slice yaC),.dat 3 (.int .i64)]
abbrev g3:List Si:=[]
def T:CT:=(.s .o (.s .o (.s (.s .o (.b (.l g1 (.s .o (.s .o (.r g2 .o)))))) (.r g3 .o))))
def J1 (n:Nat)(m:Nat):(List (yaH))×Int×Unit→Option R:=jL (X n) n T (yau Tryz.f46) (endK ia io) g1 [1,1,0,1,0] [] m
def J2 (n m1:Nat):(List (yaH))×Int×Unit→Option R:=jR (X n) n T (yau Tryz.f46) (endK ia io) g2 [1,1,0,1,0,0,1,1] [m1]
def J3 (n:Nat):Unit→Option R:=jR (X n) n T (yau Tryz.f46) (endK ia io) g3 [1,1,1] []
def f (n:Nat)(l:List (yaH)):Option R:=fRun (X n) n T Tryz.f46 ia io (l,())
theorem e0 (n:Nat)(l:List (yaH)):f n l=bIf ((hide (decide (((l.length:Nat):Int)>(8:Int))))) (some (false,())) (J1 n n (l,0,())):=(yac _).trans (by kernel_rfl)
theorem e1 (n m:Nat)(l:List (yaH))(i:Int):J1 n (m+1) (l,i,())=bIf ((hide (decide (i<((l.length:Nat):Int))))) (gIf (0≤i∧i<((l.length:Nat):Int)) (bnd (ycJ.f n (((List.getD l i.toNat (Va.dflt yaC)).2).1)) λu1=>bIf ((!u1.1)) (some (false,())) (gIf (0≤i∧i<((l.length:Nat):Int)) (bnd (ycJ.f n ((((List.getD l i.toNat (Va.dflt yaC)).2).2).1)) λu2=>bIf ((!u2.1)) (some (false,())) (gIf (0≤i∧i<((l.length:Nat):Int)) (bnd (ycJ.f n (((((List.getD l i.toNat (Va.dflt yaC)).2).2).2).1)) λu3=>bIf ((!u3.1)) (some (false,())) (J2 n m (l,i,())))))))) (J3 n (())):=(yac _).trans (by kernel_rfl)
theorem e2 (n m1:Nat)(l:List (yaH))(i:Int):J2 n m1 (l,i,())=J1 n m1 (l,(IntKind.i64.wrap (i+(1:Int))),()):=(yac _).trans (by kernel_rfl)
theorem e3 (n:Nat):J3 n (())=some (true,()):=(yac _).trans (by kernel_rfl)
theorem ok (n:Nat):FnOk Tryz.prog 46 ia io (fRun (X n) n T Tryz.f46 ia io):=yaA mixed tabIs (yaj (yai (ycJ.ok n)) (yas)) Tryz.func46 (by kernel_rfl) rfl
def en (n:Nat):Entry:=yaw 46 ia io (fRun (X n) n T Tryz.f46 ia io)
end ybM
end
end Go.Proofs.YtemhlkdingkjnaaGreatDoor
namespace Go.Proofs.YtemhlkdingkjnaaGreatDoor
open Go Go.Va Go.Proofs
theorem yap {α:Type}(x y:α):bIf true x y=x:=rfl
theorem yam {α:Type}(x y:α):bIf false x y=y:=rfl
theorem bIf_and (a b:Bool):bIf a (some (b,())) (some (false,()))=some (a&&b,()):=by cases a<;>rfl
theorem bIf_bool (a:Bool):bIf a (some (true,())) (some (false,()))=some (a,()):=by cases a<;>rfl
theorem all_loop {α R:Type}{l:List α}(d:α)(p:α→Bool)(J:Nat→Int→Option R)(yes no:Option R)
    (hs:∀ m (k:Nat),k<l.length→J (m+1) (k:Int)=bIf (p (l.getD k d)) (J m ((k+1:Nat):Int)) no) (he:∀ m,J (m+1) ((l.length:Nat):Int)=yes) :
    ∀ (m k:Nat),k≤l.length→l.length-k<m→J m (k:Int)=bIf ((l.drop k).all p) yes no
  | 0,k,_,h=>by omega
  | m + 1,k,hk,h=>by
    by_cases hlt:k<l.length
    · rw[hs m k hlt,all_loop d p J yes no hs he m (k+1) (by omega) (by omega),List.drop_eq_getElem_cons hlt,List.all_cons,List.getD_eq_getElem?_getD,List.getElem?_eq_getElem hlt]
      simp only[Option.getD_some]
      cases p l[k]<;>rfl
    · have:k=l.length:=by omega
      subst this
      rw[he,List.drop_length];rfl
theorem idx_loop {α:Type}{l:List α}(d:α)(p:α→Bool)(J:Nat→Int→Option (Int×Unit))
    (hs:∀ m (k:Nat),k<l.length→J (m+1) (k:Int)=bIf (p (l.getD k d)) (some ((k:Int),())) (J m ((k+1:Nat):Int))) (he:∀ m,J (m+1) ((l.length:Nat):Int)=some (-1,())) :
    ∀ (m k:Nat),k≤l.length→l.length-k<m→∃ i,J m (k:Int)=some (i,())∧decide (i≥0)=(l.drop k).any p
  | 0,k,_,h=>by omega
  | m + 1,k,hk,h=>by
    by_cases hlt:k<l.length
    · obtain⟨i,h1,h2⟩:=idx_loop d p J hs he m (k+1) (by omega) (by omega)
      rw[hs m k hlt,List.drop_eq_getElem_cons hlt,List.any_cons,List.getD_eq_getElem?_getD,List.getElem?_eq_getElem hlt]
      simp only[Option.getD_some]
      cases p l[k]
      · exact⟨i,h1,by rw[h2];rfl⟩
      · exact⟨_,rfl,by simp⟩
    · have:k=l.length:=by omega
      subst this
      rw[he,List.drop_length]
      exact⟨_,rfl,rfl⟩
theorem ya7 (k:Nat)(h:k<4611686018427387904):IntKind.i64.wrap ((k:Int)+1)=((k+1:Nat):Int):=by rw[ybn (by omega)];omega
theorem dec_not {p q:Prop} [Decidable p] [Decidable q](h:p↔¬ q):decide p=!decide q:=by rw[← decide_not];exact decide_eq_decide.2 h
def modeB (d:ycH):Bool:=if d.1=0 then d.2.1==0 else (d.1==1||d.1==2)&&(decide (d.2.1≥1)&&decide (d.2.1≤36500))
theorem mode_Good (n:Nat)(d:ycH):ydu.f n d=some (modeB d,()):=by
  rw[ydu.e0]
  simp only[ydu.e1,yaN,bIf_and]
  unfold modeB
  by_cases h0:d.1=0
  · simp[h0,yap]
  · rw[beq_false_of_ne h0,yam,if_neg h0]
    cases (d.1==1)<;>rfl
theorem ref12_Good (n:Nat)(d:ycH):ydd.f n d=some (modeB d,()):=by
  rw[ydd.e0]
  simp only[yaN,bIf_and]
  unfold modeB
  by_cases h0:d.1=0
  · simp[h0,yap]
  · rw[beq_false_of_ne h0,yam,if_neg h0]
    cases (d.1==1)<;>rfl
def globL:List UInt8→Bool
  | []=>true
  | c::r=>if c=92 then match r with
    | []=>false
    | _::r'=>globL r'
    else globL r
def globB (p:ByteArray):Bool:=decide (p.size≤200)&&globL p.data.toList
theorem globL_cons {c:UInt8}{r:List UInt8}(h:c≠92):globL (c::r)=globL r:=by rw[globL.eq_def];simp only[if_neg h]
theorem globL_q (b:UInt8)(r:List UInt8):globL (92::b::r)=globL r:=by rw[globL.eq_def];simp
theorem globL_end:globL [92]=false:=by rw[globL.eq_def];simp
theorem drop_getD (l:List UInt8){k:Nat}(h:k<l.length):l.drop k=l.getD k 0::l.drop (k+1):=by
  rw[List.drop_eq_getElem_cons h,List.getD_eq_getElem?_getD,List.getElem?_eq_getElem h];rfl
theorem u8_eq {b:UInt8}{c:Nat}(hc:c<256):((b.toNat:Int)==(c:Int))=decide (b=UInt8.ofNat c):=by
  have:=b.toNat_lt
  by_cases h:b=UInt8.ofNat c
  · subst h;rw[decide_eq_true rfl];simp[UInt8.toNat_ofNat'];omega
  · rw[decide_eq_false h]
    refine beq_false_of_ne (λe=>h ?_)
    apply UInt8.toNat_inj.1
    simp[UInt8.toNat_ofNat']
    omega
theorem glob_J (n:Nat) (p:ByteArray) (hp:p.size≤200):∀ (m k:Nat) (out:List ya2),k≤p.size→p.size-k<m→out.length≤k →
    ∃ o,ybQ.J1 n m (p,out,(k:Int),())=some (o,globL (p.data.toList.drop k),())
  | 0,k,out,_,h,_=>by omega
  | m + 1, k, out,hk,h,ho=>by
    have hsz:=size_eq p
    rw[ybQ.e1]
    simp only[yaN]
    by_cases hlt:k<p.size
    · have hd := drop_getD p.data.toList (k:=k) (by omega)
      rw[decide_eq_true (by omega),yap,yaq ⟨by omega,by omega⟩,bt_nat,hd]
      have hg:∀ o:List ya2,o.length≤k+1→(o.length+1)*16≤70368744177664:=λo h'=>by omega
      have e1:(((p.data.toList.getD k 0).toNat:Int)==42)=decide (p.data.toList.getD k 0=42):=u8_eq (c:=42) (by decide)
      have e2:(((p.data.toList.getD k 0).toNat:Int)==63)=decide (p.data.toList.getD k 0=63):=u8_eq (c:=63) (by decide)
      have e3:(((p.data.toList.getD k 0).toNat:Int)==92)=decide (p.data.toList.getD k 0=92):=u8_eq (c:=92) (by decide)
      rw[e1,e2,e3]
      generalize p.data.toList.getD k 0=c
      have st:∀ o:List ya2,o.length≤k+1→∃ o',ybQ.J3 n m (p,o,(k:Int),())=some (o',globL (p.data.toList.drop (k+1)),()):=λo h'=>by
        rw[ybQ.e3,ya7 k (by omega)]
        exact glob_J n p hp m (k+1) o (by omega) (by omega) h'
      by_cases h1:c=42
      · rw[decide_eq_true h1,yap,yaq (hg out (by omega)),globL_cons (by rw[h1];decide)]
        exact st _ (by simp;omega)
      · rw[decide_eq_false h1,yam]
        by_cases h2:c=63
        · rw[decide_eq_true h2,yap,yaq (hg out (by omega)),globL_cons (by rw[h2];decide)]
          exact st _ (by simp;omega)
        · rw[decide_eq_false h2,yam]
          by_cases h3:c=92
          · rw[decide_eq_true h3,yap,ya7 k (by omega),h3]
            by_cases h4:k+1=p.size
            · rw[beq_iff_eq.2 (by omega),yap,List.drop_eq_nil_of_le (by omega),globL_end]
              exact⟨_,rfl⟩
            · rw[beq_false_of_ne (by omega),yam,ybQ.e2,yaq ⟨by omega,by omega⟩,yaq (hg out (by omega)),ybQ.e3,ya7 (k+1) (by omega),drop_getD p.data.toList (k:=k+1) (by omega),globL_q]
              exact glob_J n p hp m (k+1+1) _ (by omega) (by omega) (by simp;omega)
          · rw[decide_eq_false h3,yam,ybQ.e2,yaq ⟨by omega,by omega⟩,yaq (hg out (by omega)),globL_cons h3]
            exact st _ (by simp;omega)
    · have hkk:k=p.size:=by omega
      subst hkk
      rw[decide_eq_false (by omega),yam,ybQ.e4,hsz,List.drop_length]
      exact⟨_,rfl⟩
theorem glob_Sound {n:Nat}{p:ByteArray}(hp:p.size<n):ycZ.f n p=some (globB p,()):=by
  rw[ycZ.e0,ybQ.e0]
  simp only[yaN]
  unfold globB
  by_cases h:p.size≤200
  · rw[decide_eq_false (by omega),yam,decide_eq_true h]
    obtain⟨o,ho⟩:=glob_J n p h n 0 [] (by omega) (by omega) (by simp)
    rw[show ((0:Nat):Int)=0 from rfl]at ho
    rw[ho];rfl
  · rw[decide_eq_true (by omega),decide_eq_false h];rfl
theorem glob7_J (n:Nat) (p:ByteArray) (hp:p.size≤200):∀ (m k:Nat) (out:List ya2),k≤p.size→p.size-k<m→out.length≤k →
    ∃ o,ybW.J1 n m (p,out,(k:Int),())=some (o,globL (p.data.toList.drop k),())
  | 0,k,out,_,h,_=>by omega
  | m + 1, k, out,hk,h,ho=>by
    have hsz:=size_eq p
    rw[ybW.e1]
    simp only[yaN]
    by_cases hlt:k<p.size
    · have hd := drop_getD p.data.toList (k:=k) (by omega)
      rw[decide_eq_true (by omega),yap,yaq ⟨by omega,by omega⟩,bt_nat,hd]
      have hg:∀ o:List ya2,o.length≤k+1→(o.length+1)*16≤70368744177664:=λo h'=>by omega
      have e1:(((p.data.toList.getD k 0).toNat:Int)==42)=decide (p.data.toList.getD k 0=42):=u8_eq (c:=42) (by decide)
      have e2:(((p.data.toList.getD k 0).toNat:Int)==63)=decide (p.data.toList.getD k 0=63):=u8_eq (c:=63) (by decide)
      have e3:(((p.data.toList.getD k 0).toNat:Int)==92)=decide (p.data.toList.getD k 0=92):=u8_eq (c:=92) (by decide)
      rw[e1,e2,e3]
      generalize p.data.toList.getD k 0=c
      have st:∀ o:List ya2,o.length≤k+1→∃ o',ybW.J2 n m (p,o,(k:Int),())=some (o',globL (p.data.toList.drop (k+1)),()):=λo h'=>by
        rw[ybW.e2,ya7 k (by omega)]
        exact glob7_J n p hp m (k+1) o (by omega) (by omega) h'
      by_cases h1:c=42
      · rw[decide_eq_true h1,yap,yaq (hg out (by omega)),globL_cons (by rw[h1];decide)]
        exact st _ (by simp;omega)
      · rw[decide_eq_false h1,yam]
        by_cases h2:c=63
        · rw[decide_eq_true h2,yap,yaq (hg out (by omega)),globL_cons (by rw[h2];decide)]
          exact st _ (by simp;omega)
        · rw[decide_eq_false h2,yam]
          by_cases h3:c=92
          · rw[decide_eq_true h3,yap,ya7 k (by omega),ybn (x:=(p.size:Int)-1) (by omega),h3]
            by_cases h4:k+1=p.size
            · rw[beq_iff_eq.2 (by omega),yap,List.drop_eq_nil_of_le (by omega),globL_end]
              exact⟨_,rfl⟩
            · rw[beq_false_of_ne (by omega),yam,yaq ⟨by omega,by omega⟩,yaq (hg out (by omega)),ybW.e2,ya7 (k+1) (by omega),drop_getD p.data.toList (k:=k+1) (by omega),globL_q]
              exact glob7_J n p hp m (k+1+1) _ (by omega) (by omega) (by simp;omega)
          · rw[decide_eq_false h3,yam,yaq ⟨by omega,by omega⟩,yaq (hg out (by omega)),globL_cons h3]
            exact st _ (by simp;omega)
    · have hkk:k=p.size:=by omega
      subst hkk
      rw[decide_eq_false (by omega),yam,ybW.e3,hsz,List.drop_length]
      exact⟨_,rfl⟩
theorem ref07_Sound {n:Nat}{p:ByteArray}(hp:p.size<n):ycJ.f n p=some (globB p,()):=by
  rw[ycJ.e0,ybW.e0]
  simp only[yaN]
  unfold globB
  by_cases h:p.size≤200
  · rw[decide_eq_false (by omega),yam,decide_eq_true h]
    obtain⟨o,ho⟩:=glob7_J n p h n 0 [] (by omega) (by omega) (by simp)
    rw[show ((0:Nat):Int)=0 from rfl]at ho
    rw[ho];rfl
  · rw[decide_eq_true (by omega),decide_eq_false h];rfl
def partB (p:yaJ):Bool:=decide (p.1≥1)&&(decide (p.1≤10000)&&(decide (p.2.1≥0)&&(decide (p.2.1≤1024)&&decide (p.2.2.1≥1))))
theorem entry_Part (n:Nat)(p:yaJ):ydr.f n p=some (partB p,()):=by
  rw[ydr.e0];simp only[yaN,bIf_and];rfl
theorem ref14_Part (n:Nat)(p:yaJ):ydo.f n p=some (partB p,()):=by
  rw[ydo.e0];simp only[yaN,bIf_and];rfl
def ruleB (r:yaE):Bool:=decide (r.1.size≤200)&&(cleanB r.1&&(tagsB r.2.1&&(decide (r.2.2.1≥0)&&(decide (r.2.2.1≤36500)&&(decide (r.2.2.2.1≥0)&&decide (r.2.2.2.1≤36500))))))
structure RuB (n:Nat)(r:yaE):Prop where
  pre:r.1.size<n
  tags:TsB n r.2.1
theorem dec_cast (a b:Nat):decide ((a:Int)≤(b:Int))=decide (a≤b):=decide_eq_decide.2 (by omega)
theorem entry_Rule {n:Nat}(hn:n≤536870912){r:yaE}(hr:RuB n r):ydn.f n r=some (ruleB r,()):=by
  have h1:=hr.pre
  rw[ydn.e0,clean42 (by omega) h1,tags35 hn hr.tags]
  simp only[yaN,bnd_some,bIf_and]
  rw[show (200:Int)=((200:Nat):Int) from rfl,dec_cast];rfl
def rulesB (l:List yaE):Bool:=decide (l.length≤8)&&l.all ruleB
structure RusB (n:Nat)(l:List yaE):Prop where
  len:l.length<n
  all:∀ r∈l,RuB n r
theorem any_not {α:Type}(p:α→Bool):∀ l:List α,(!l.any λx=>!p x)=l.all p
  | []=>rfl
  | x::l=>by
    have:=any_not p l
    simp only[List.any_cons,List.all_cons,Bool.not_or,Bool.not_not,this]
theorem entry_Rules {n:Nat}(hn:n≤536870912){l:List yaE}(hl:RusB n l):ydc.f n l=some (rulesB l,()):=by
  have hlen:=hl.len
  obtain⟨i,h1,h2⟩:=idx_loop (l:=l) (Va.dflt yav) (λr=>!ruleB r) (λm k=>ybb.J1 n m (l,((l.length:Nat):Int),k,()))
    (λm k hk=>by
      try dsimp only
      rw[ybb.e1,yaN,decide_eq_true (by omega),yap,yaq ⟨by omega,by omega⟩,Int.toNat_natCast,yc3.e0,entry_Rule hn (hl.all _ (ybr hk)),ya7 k (by omega)];rfl)
    (λm=>by
      try dsimp only
      rw[ybb.e1,yaN,decide_eq_false (by omega),yam,ybb.e2]) n 0 (by omega) (by omega)
  rw[ydc.e0,ybx.e0,ybb.e0]
  try dsimp only at h1
  rw[show ((0:Nat):Int)=0 from rfl]at h1
  rw[h1]
  simp only[yaN,bnd_some,bIf_and]
  rw[h2,List.drop_zero,any_not,show (8:Int)=((8:Nat):Int) from rfl,dec_cast];rfl
theorem ref14_Rules {n:Nat}(hn:n≤536870912)(h5:5≤n){l:List yaE}(hl:RusB n l):yb8.f n l=some (rulesB l,()):=by
  have hlen:=hl.len
  have h1:=all_loop (l:=l) (Va.dflt yav) ruleB (λm k=>yb8.J1 n m (l,k,())) (some (true,())) (some (false,()))
    (λm k hk=>by
      have hr:=hl.all _ (ybr (d:=Va.dflt yav) hk)
      have hp:=hr.pre
      try dsimp only
      rw[yb8.e1,yaN,decide_eq_true (by omega),yap,yaq ⟨by omega,by omega⟩,Int.toNat_natCast]
      generalize hx:l.getD k (Va.dflt yav)=r at hr hp
      rw[clean44 (by omega) hp h5,tags38 hn h5 hr.tags]
      simp only[yaN,bnd_some]
      rw[yb8.e2,ya7 k (by omega)]
      unfold ruleB
      have a1:decide ((r.1.size:Int)>200)=!decide (r.1.size≤200):=dec_not (by omega)
      have a2:decide (r.2.2.1<0)=!decide (r.2.2.1≥0):=dec_not (by omega)
      have a3:decide (r.2.2.1>36500)=!decide (r.2.2.1≤36500):=dec_not (by omega)
      have a4:decide (r.2.2.2.1<0)=!decide (r.2.2.2.1≥0):=dec_not (by omega)
      have a5:decide (r.2.2.2.1>36500)=!decide (r.2.2.2.1≤36500):=dec_not (by omega)
      rw[a1,a2,a3,a4,a5]
      cases decide (r.1.size≤200)<;>cases cleanB r.1<;>cases tagsB r.2.1<;>cases decide (r.2.2.1≥0)<;>cases decide (r.2.2.1≤36500)<;>cases decide (r.2.2.2.1≥0)<;>cases decide (r.2.2.2.1≤36500)<;>rfl)
    (λm=>by
      try dsimp only
      rw[yb8.e1,yaN,decide_eq_false (by omega),yam,yb8.e3]) n 0 (by omega) (by omega)
  rw[yb8.e0,yaN]
  unfold rulesB
  by_cases h8:l.length≤8
  · rw[decide_eq_false (by omega),yam,decide_eq_true h8]
    try dsimp only at h1
    rw[show ((0:Nat):Int)=0 from rfl]at h1
    rw[h1,List.drop_zero,bIf_bool];rfl
  · rw[decide_eq_true (by omega),decide_eq_false h8];rfl
def grantB (g:yaH):Bool:=globB g.2.1&&(globB g.2.2.1&&globB g.2.2.2.1)
structure GrB (n:Nat)(g:yaH):Prop where
  a:g.2.1.size<n
  b:g.2.2.1.size<n
  c:g.2.2.2.1.size<n
def grantsB (l:List yaH):Bool:=decide (l.length≤8)&&l.all grantB
structure GrsB (n:Nat)(l:List yaH):Prop where
  len:l.length<n
  all:∀ r∈l,GrB n r
theorem entry_Grants {n:Nat}(hn:n≤536870912){l:List yaH}(hl:GrsB n l):ycX.f n l=some (grantsB l,()):=by
  have hlen:=hl.len
  obtain⟨i,h1,h2⟩:=idx_loop (l:=l) (Va.dflt yaC) (λr=>!grantB r) (λm k=>ya8.J1 n m (l,((l.length:Nat):Int),k,()))
    (λm k hk=>by
      have hr:=hl.all _ (ybr (d:=Va.dflt yaC) hk)
      try dsimp only
      rw[ya8.e1,yaN,decide_eq_true (by omega),yap,yaq ⟨by omega,by omega⟩,Int.toNat_natCast,ycQ.e0]
      generalize hx:l.getD k (Va.dflt yaC)=r at hr
      rw[glob_Sound hr.a,glob_Sound hr.b,glob_Sound hr.c,ya7 k (by omega)]
      simp only[bnd_some]
      unfold grantB
      cases globB r.2.1<;>cases globB r.2.2.1<;>cases globB r.2.2.2.1<;>rfl)
    (λm=>by
      try dsimp only
      rw[ya8.e1,yaN,decide_eq_false (by omega),yam,ya8.e2]) n 0 (by omega) (by omega)
  rw[ycX.e0,ybu.e0,ya8.e0]
  try dsimp only at h1
  rw[show ((0:Nat):Int)=0 from rfl]at h1
  rw[h1]
  simp only[yaN,bnd_some,bIf_and]
  rw[h2,List.drop_zero,any_not,show (8:Int)=((8:Nat):Int) from rfl,dec_cast];rfl
theorem ref14_Grants {n:Nat}(hn:n≤536870912){l:List yaH}(hl:GrsB n l):ybM.f n l=some (grantsB l,()):=by
  have hlen:=hl.len
  have h1:=all_loop (l:=l) (Va.dflt yaC) grantB (λm k=>ybM.J1 n m (l,k,())) (some (true,())) (some (false,()))
    (λm k hk=>by
      have hr:=hl.all _ (ybr (d:=Va.dflt yaC) hk)
      have hg:(0≤(k:Int)∧(k:Int)<((l.length:Nat):Int)):=⟨by omega,by omega⟩
      try dsimp only
      rw[ybM.e1,yaN,decide_eq_true (by omega),yap]
      simp only[yaq hg,Int.toNat_natCast]
      generalize hx:l.getD k (Va.dflt yaC)=r at hr
      rw[ref07_Sound hr.a,ref07_Sound hr.b,ref07_Sound hr.c,ybM.e2,ya7 k (by omega)]
      simp only[bnd_some]
      unfold grantB
      cases globB r.2.1<;>cases globB r.2.2.1<;>cases globB r.2.2.2.1<;>rfl)
    (λm=>by
      try dsimp only
      rw[ybM.e1,yaN,decide_eq_false (by omega),yam,ybM.e3]) n 0 (by omega) (by omega)
  rw[ybM.e0,yaN]
  unfold grantsB
  by_cases h8:l.length≤8
  · rw[decide_eq_false (by omega),yam,decide_eq_true h8]
    try dsimp only at h1
    rw[show ((0:Nat):Int)=0 from rfl]at h1
    rw[h1,List.drop_zero,bIf_bool];rfl
  · rw[decide_eq_true (by omega),decide_eq_false h8];rfl
end Go.Proofs.YtemhlkdingkjnaaGreatDoor
namespace Go.Proofs.YtemhlkdingkjnaaGreatDoor
open Go Go.Va Go.Proofs
noncomputable section
namespace ybU
abbrev ia:List Ai:=[.dat .str]
abbrev io:List (Nat×Oi):=[(2,.dat .bool)]
abbrev R:Type:=DOut ia io
def X (n:Nat):Ctx:=⟨⟨tab,[ydC.en,ydQ.en],0,[]⟩,30,bnOf 0 ia⟩
abbrev g1:List Si:=[.val 11 (.r 201100 .str),.dat 12 (.int .i64),.dat 13 (.int .i64)]
abbrev g2:List Si:=[]
def T:CT:=(.s .o (.s .o (.s .o (.s (.s .o (.b (.l g1 .o))) (.r g2 .o)))))
def J1 (n:Nat)(m:Nat):(List (ByteArray))×Int×Int×Unit→Option R:=jL (X n) n T (yau Tryz.f161) (endK ia io) g1 [1,1,1,0,1,0] [] m
def J2 (n:Nat):Unit→Option R:=jR (X n) n T (yau Tryz.f161) (endK ia io) g2 [1,1,1,1] []
def f (n:Nat)(s_:ByteArray):Option R:=fRun (X n) n T Tryz.f161 ia io (s_,())
theorem e0 (n:Nat)(s_:ByteArray):f n s_=bnd (ydC.f s_ (⟨#[46]⟩:ByteArray)) λu1=>bIf ((hide (((u1.1.length:Nat):Int) != (4:Int)))) (some (false,())) (J1 n n (u1.1,((u1.1.length:Nat):Int),0,())):=(yac _).trans (by kernel_rfl)
theorem e1 (n m:Nat)(t11:List (ByteArray))(t12:Int)(t13:Int):J1 n (m+1) (t11,t12,t13,())=bIf ((hide (decide (t13<t12)))) (gIf (0≤t13∧t13<((t11.length:Nat):Int)) (bIf ((hide (eqS (List.getD t11 (0+t13.toNat) (⟨#[]⟩:ByteArray)) (⟨#[]⟩:ByteArray)))) (some (false,())) (bIf ((hide (decide (((List.getD t11 (0+t13.toNat) (⟨#[]⟩:ByteArray)).size:Int)>(3:Int))))) (some (false,())) (bnd (ydQ.f (List.getD t11 (0+t13.toNat) (⟨#[]⟩:ByteArray)) (⟨#[48,49,50,51,52,53,54,55,56,57]⟩:ByteArray)) λu1=>bIf ((hide (!eqS u1.1 (⟨#[]⟩:ByteArray)))) (some (false,())) (J1 n m (t11,t12,(IntKind.i64.wrap (t13+(1:Int))),())))))) (J2 n (())):=(yac _).trans (by kernel_rfl)
theorem e2 (n:Nat):J2 n (())=some (true,()):=(yac _).trans (by kernel_rfl)
theorem ok (n:Nat):FnOk Tryz.prog 161 ia io (fRun (X n) n T Tryz.f161 ia io):=yaA mixed tabIs (yaj (yai (ydC.ok)) (yaj (yai (ydQ.ok)) (yas))) Tryz.func161 (by kernel_rfl) rfl
def en (n:Nat):Entry:=yaw 161 ia io (fRun (X n) n T Tryz.f161 ia io)
end ybU
namespace yde
abbrev ia:List Ai:=[.dat .str,.dat (.int .u8)]
abbrev io:List (Nat×Oi):=[(4,.dat .bool)]
abbrev R:Type:=DOut ia io
def X (n:Nat):Ctx:=⟨⟨tab,[yc4.en],0,[]⟩,9,bnOf 0 ia⟩
def T:CT := .o
def f (n:Nat)(some_:ByteArray)(b:Int):Option R:=fRun (X n) n T Tryz.f162 ia io (some_,b,())
theorem e0 (n:Nat)(some_:ByteArray)(b:Int):f n some_ b=bnd (yc4.f some_ b) λu1=>some ((hide (decide (u1.1≥(0:Int)))),()):=(yac _).trans (by kernel_rfl)
theorem ok (n:Nat):FnOk Tryz.prog 162 ia io (fRun (X n) n T Tryz.f162 ia io):=yaA mixed tabIs (yaj (yai (yc4.ok)) (yas)) Tryz.func162 (by kernel_rfl) rfl
def en (n:Nat):Entry:=yaw 162 ia io (fRun (X n) n T Tryz.f162 ia io)
end yde
namespace ybN
abbrev ia:List Ai:=[.dat .str]
abbrev io:List (Nat×Oi):=[(2,.dat .bool)]
abbrev R:Type:=DOut ia io
def X (n:Nat):Ctx:=⟨⟨tab,[ybU.en n,yde.en n],0,[]⟩,68,bnOf 0 ia⟩
abbrev g1:List Si:=[.dat 0 .str]
abbrev g2:List Si:=[.dat 0 .str,.dat 18 (.int .i64),.dat 19 (.int .i64)]
abbrev g3:List Si:=[.dat 0 .str,.dat 3 (.int .i64),.dat 18 (.int .i64),.dat 19 (.int .i64)]
abbrev g4:List Si:=[]
def T:CT:=(.s .o (.s .o (.r g1 (.s (.s .o (.b (.l g2 (.s .o (.s .o (.s (.b (.s .o (.s .o (.s .o (.r g3 .o))))) .o)))))) (.r g4 .o)))))
def J1 (n:Nat):ByteArray×Unit→Option R:=jR (X n) n T (yau Tryz.f101) (endK ia io) g1 [1,1] []
def J2 (n:Nat)(m:Nat):ByteArray×Int×Int×Unit→Option R:=jL (X n) n T (yau Tryz.f101) (endK ia io) g2 [1,1,0,1,0] [] m
def J3 (n m2:Nat):ByteArray×Int×Int×Int×Unit→Option R:=jR (X n) n T (yau Tryz.f101) (endK ia io) g3 [1,1,0,1,0,0,1,1,0,0,1,1,1] [m2]
def J4 (n:Nat):Unit→Option R:=jR (X n) n T (yau Tryz.f101) (endK ia io) g4 [1,1,1] []
def f (n:Nat)(s_:ByteArray):Option R:=fRun (X n) n T Tryz.f101 ia io (s_,())
theorem e0 (n:Nat)(s_:ByteArray):f n s_=bIf ((hide (decide ((s_.size:Int)<(3:Int))))) (some (false,())) (bIf ((hide (decide ((s_.size:Int)>(63:Int))))) (some (false,())) (bnd (ybU.f n s_) λu1=>bIf (u1.1) (some (false,())) (J1 n (s_,())))):=(yac _).trans (by kernel_rfl)
theorem e1 (n:Nat)(s_:ByteArray):J1 n (s_,())=J2 n n (s_,(s_.size:Int),0,()):=(yac _).trans (by kernel_rfl)
theorem e2 (n m:Nat)(s_:ByteArray)(t18:Int)(t19:Int):J2 n (m+1) (s_,t18,t19,())=bIf ((hide (decide (t19<t18)))) (gIf (0≤t19∧t19<(s_.size:Int)) (bnd (yde.f n (⟨#[97,98,99,100,101,102,103,104,105,106,107,108,109,110,111,112,113,114,115,116,117,118,119,120,121,122,48,49,50,51,52,53,54,55,56,57]⟩:ByteArray) (bt s_ t19)) λu1=>bIf (u1.1) (J2 n m (s_,t18,(IntKind.i64.wrap (t19+(1:Int))),())) (gIf (0≤t19∧t19<(s_.size:Int)) (bIf ((hide ((bt s_ t19) != (45:Int)))) (gIf (0≤t19∧t19<(s_.size:Int)) (bIf ((hide ((bt s_ t19) != (46:Int)))) (some (false,())) (bIf ((hide (t19==(0:Int)))) (some (false,())) (bIf ((hide (t19==(IntKind.i64.wrap ((s_.size:Int)-(1:Int)))))) (some (false,())) (J3 n m (s_,t19,t18,t19,())))))) (bIf ((hide (t19==(0:Int)))) (some (false,())) (bIf ((hide (t19==(IntKind.i64.wrap ((s_.size:Int)-(1:Int)))))) (some (false,())) (J3 n m (s_,t19,t18,t19,())))))))) (J4 n (())):=(yac _).trans (by kernel_rfl)
theorem e3 (n m2:Nat)(s_:ByteArray)(i:Int)(t18:Int)(t19:Int):J3 n m2 (s_,i,t18,t19,())=gIf (0≤(IntKind.i64.wrap (i+(1:Int)))∧(IntKind.i64.wrap (i+(1:Int)))<(s_.size:Int)) (bIf ((hide ((bt s_ (IntKind.i64.wrap (i+(1:Int))))==(46:Int)))) (gIf (0≤i∧i<(s_.size:Int)) (bIf ((hide ((bt s_ i)==(46:Int)))) (some (false,())) (bIf ((hide ((bt s_ (IntKind.i64.wrap (i+(1:Int))))==(46:Int)))) (some (false,())) (J2 n m2 (s_,t18,(IntKind.i64.wrap (t19+(1:Int))),()))))) (bIf ((hide ((bt s_ (IntKind.i64.wrap (i+(1:Int))))==(45:Int)))) (gIf (0≤i∧i<(s_.size:Int)) (bIf ((hide ((bt s_ i)==(46:Int)))) (some (false,())) (bIf ((hide ((bt s_ (IntKind.i64.wrap (i+(1:Int))))==(46:Int)))) (some (false,())) (J2 n m2 (s_,t18,(IntKind.i64.wrap (t19+(1:Int))),()))))) (J2 n m2 (s_,t18,(IntKind.i64.wrap (t19+(1:Int))),())))):=(yac _).trans (by kernel_rfl)
theorem e4 (n:Nat):J4 n (())=some (true,()):=(yac _).trans (by kernel_rfl)
theorem ok (n:Nat):FnOk Tryz.prog 101 ia io (fRun (X n) n T Tryz.f101 ia io):=yaA mixed tabIs (yaj (yai (ybU.ok n)) (yaj (yai (yde.ok n)) (yas))) Tryz.func101 (by kernel_rfl) rfl
def en (n:Nat):Entry:=yaw 101 ia io (fRun (X n) n T Tryz.f101 ia io)
end ybN
namespace ycv
abbrev ia:List Ai:=[.dat .str]
abbrev io:List (Nat×Oi):=[(2,.dat .bool)]
abbrev R:Type:=DOut ia io
def X (n:Nat):Ctx:=⟨⟨tab,[],0,[]⟩,42,bnOf 0 ia⟩
abbrev g1:List Si:=[.dat 0 .str,.dat 3 (.int .i64),.dat 4 (.int .i64),.dat 5 (.int .i64)]
abbrev g2:List Si:=[.dat 0 .str,.dat 3 (.int .i64),.dat 4 (.int .i64),.dat 5 (.int .i64)]
abbrev g3:List Si:=[.dat 3 (.int .i64),.dat 4 (.int .i64)]
def T:CT:=(.s .o (.s .o (.s (.s .o (.b (.l g1 (.s .o (.s .o (.r g2 .o)))))) (.r g3 .o))))
def J1 (n:Nat)(m:Nat):ByteArray×Int×Int×Int×Unit→Option R:=jL (X n) n T (yau Tryz.f83) (endK ia io) g1 [1,1,0,1,0] [] m
def J2 (n m1:Nat):ByteArray×Int×Int×Int×Unit→Option R:=jR (X n) n T (yau Tryz.f83) (endK ia io) g2 [1,1,0,1,0,0,1,1] [m1]
def J3 (n:Nat):Int×Int×Unit→Option R:=jR (X n) n T (yau Tryz.f83) (endK ia io) g3 [1,1,1] []
def f (n:Nat)(s_:ByteArray):Option R:=fRun (X n) n T Tryz.f83 ia io (s_,())
theorem e0 (n:Nat)(s_:ByteArray):f n s_=J1 n n (s_,0,0,0,()):=(yac _).trans (by kernel_rfl)
theorem e1 (n m:Nat)(s_:ByteArray)(points:Int)(digits:Int)(i:Int):J1 n (m+1) (s_,points,digits,i,())=bIf ((hide (decide (i<(s_.size:Int))))) (gIf (0≤i∧i<(s_.size:Int)) (bIf ((hide ((bt s_ i)==(46:Int)))) (bIf ((hide (digits==(0:Int)))) (some (false,())) (J2 n m (s_,(IntKind.i64.wrap (points+(1:Int))),0,i,()))) (gIf (0≤i∧i<(s_.size:Int)) (bIf ((hide (decide ((bt s_ i)<(48:Int))))) (some (false,())) (gIf (0≤i∧i<(s_.size:Int)) (bIf ((hide (decide ((bt s_ i)>(57:Int))))) (some (false,())) (bIf ((hide (decide ((IntKind.i64.wrap (digits+(1:Int)))>(3:Int))))) (some (false,())) (J2 n m (s_,points,(IntKind.i64.wrap (digits+(1:Int))),i,()))))))))) (J3 n (points,digits,())):=(yac _).trans (by kernel_rfl)
theorem e2 (n m1:Nat)(s_:ByteArray)(points:Int)(digits:Int)(i:Int):J2 n m1 (s_,points,digits,i,())=J1 n m1 (s_,points,digits,(IntKind.i64.wrap (i+(1:Int))),()):=(yac _).trans (by kernel_rfl)
theorem e3 (n:Nat)(points:Int)(digits:Int):J3 n (points,digits,())=bIf ((hide (points==(3:Int)))) (some ((hide (decide (digits>(0:Int)))),())) (some (false,())):=(yac _).trans (by kernel_rfl)
theorem ok (n:Nat):FnOk Tryz.prog 83 ia io (fRun (X n) n T Tryz.f83 ia io):=yaA mixed tabIs (yas) Tryz.func83 (by kernel_rfl) rfl
def en (n:Nat):Entry:=yaw 83 ia io (fRun (X n) n T Tryz.f83 ia io)
end ycv
namespace ycP
abbrev ia:List Ai:=[.dat (.int .u8)]
abbrev io:List (Nat×Oi):=[(2,.dat .bool)]
abbrev R:Type:=DOut ia io
def X (n:Nat):Ctx:=⟨⟨tab,[],0,[]⟩,17,bnOf 0 ia⟩
def T:CT := .o
def f (n:Nat)(b:Int):Option R:=fRun (X n) n T Tryz.f82 ia io (b,())
theorem e0 (n:Nat)(b:Int):f n b=bIf ((hide (decide (b≥(97:Int))))) (bIf ((hide (decide (b≤(122:Int))))) (some (true,())) (bIf ((hide (decide (b≥(48:Int))))) (some ((hide (decide (b≤(57:Int)))),())) (some (false,())))) (bIf ((hide (decide (b≥(48:Int))))) (some ((hide (decide (b≤(57:Int)))),())) (some (false,()))):=(yac _).trans (by kernel_rfl)
theorem ok (n:Nat):FnOk Tryz.prog 82 ia io (fRun (X n) n T Tryz.f82 ia io):=yaA mixed tabIs (yas) Tryz.func82 (by kernel_rfl) rfl
def en (n:Nat):Entry:=yaw 82 ia io (fRun (X n) n T Tryz.f82 ia io)
end ycP
namespace ybw
abbrev ia:List Ai:=[.dat .str]
abbrev io:List (Nat×Oi):=[(2,.dat .bool)]
abbrev R:Type:=DOut ia io
def X (n:Nat):Ctx:=⟨⟨tab,[ycP.en n,ycv.en n],0,[]⟩,85,bnOf 0 ia⟩
abbrev g1:List Si:=[.dat 0 .str]
abbrev g2:List Si:=[.dat 0 .str,.dat 3 (.int .i64)]
abbrev g3:List Si:=[.dat 0 .str,.dat 3 (.int .i64)]
abbrev g4:List Si:=[.dat 0 .str,.dat 3 (.int .i64)]
abbrev g5:List Si:=[]
def T:CT:=(.s .o (.s .o (.r g1 (.s (.s .o (.b (.l g2 (.s .o (.s (.b (.s .o (.r g3 .o))) (.r g4 .o)))))) (.r g5 .o)))))
def J1 (n:Nat):ByteArray×Unit→Option R:=jR (X n) n T (yau Tryz.f43) (endK ia io) g1 [1,1] []
def J2 (n:Nat)(m:Nat):ByteArray×Int×Unit→Option R:=jL (X n) n T (yau Tryz.f43) (endK ia io) g2 [1,1,0,1,0] [] m
def J3 (n m2:Nat):ByteArray×Int×Unit→Option R:=jR (X n) n T (yau Tryz.f43) (endK ia io) g3 [1,1,0,1,0,0,1,0,0,1] [m2]
def J4 (n m2:Nat):ByteArray×Int×Unit→Option R:=jR (X n) n T (yau Tryz.f43) (endK ia io) g4 [1,1,0,1,0,0,1,1] [m2]
def J5 (n:Nat):Unit→Option R:=jR (X n) n T (yau Tryz.f43) (endK ia io) g5 [1,1,1] []
def f (n:Nat)(s_:ByteArray):Option R:=fRun (X n) n T Tryz.f43 ia io (s_,())
theorem e0 (n:Nat)(s_:ByteArray):f n s_=bIf ((hide (decide ((s_.size:Int)<(3:Int))))) (some (false,())) (bIf ((hide (decide ((s_.size:Int)>(63:Int))))) (some (false,())) (gIf (0≤(0:Int)∧(0:Int)<(s_.size:Int)) (bnd (ycP.f n (bt s_ 0)) λu1=>bIf ((!u1.1)) (some (false,())) (gIf (0≤(IntKind.i64.wrap ((s_.size:Int)-(1:Int)))∧(IntKind.i64.wrap ((s_.size:Int)-(1:Int)))<(s_.size:Int)) (bnd (ycP.f n (bt s_ (IntKind.i64.wrap ((s_.size:Int)-(1:Int))))) λu2=>bIf ((!u2.1)) (some (false,())) (bnd (ycv.f n s_) λu3=>bIf (u3.1) (some (false,())) (J1 n (s_,())))))))):=(yac _).trans (by kernel_rfl)
theorem e1 (n:Nat)(s_:ByteArray):J1 n (s_,())=J2 n n (s_,0,()):=(yac _).trans (by kernel_rfl)
theorem e2 (n m:Nat)(s_:ByteArray)(i:Int):J2 n (m+1) (s_,i,())=bIf ((hide (decide (i<(s_.size:Int))))) (gIf (0≤i∧i<(s_.size:Int)) (bnd (ycP.f n (bt s_ i)) λu1=>bIf ((!u1.1)) (gIf (0≤i∧i<(s_.size:Int)) (bIf ((hide ((bt s_ i) != (45:Int)))) (gIf (0≤i∧i<(s_.size:Int)) (bIf ((hide ((bt s_ i) != (46:Int)))) (some (false,())) (J3 n m (s_,i,())))) (J3 n m (s_,i,())))) (J3 n m (s_,i,())))) (J5 n (())):=(yac _).trans (by kernel_rfl)
theorem e3 (n m2:Nat)(s_:ByteArray)(i:Int):J3 n m2 (s_,i,())=bIf ((hide (decide (i>(0:Int))))) (gIf (0≤i∧i<(s_.size:Int)) (bnd (ycP.f n (bt s_ i)) λu1=>bIf ((!u1.1)) (gIf (0≤(IntKind.i64.wrap (i-(1:Int)))∧(IntKind.i64.wrap (i-(1:Int)))<(s_.size:Int)) (bnd (ycP.f n (bt s_ (IntKind.i64.wrap (i-(1:Int))))) λu2=>bIf ((!u2.1)) (gIf (0≤i∧i<(s_.size:Int)) (bIf ((hide ((bt s_ i)==(45:Int)))) (gIf (0≤(IntKind.i64.wrap (i-(1:Int)))∧(IntKind.i64.wrap (i-(1:Int)))<(s_.size:Int)) (bIf ((!(hide ((bt s_ (IntKind.i64.wrap (i-(1:Int))))==(45:Int))))) (some (false,())) (J4 n m2 (s_,i,())))) (some (false,())))) (J4 n m2 (s_,i,())))) (J4 n m2 (s_,i,())))) (J4 n m2 (s_,i,())):=(yac _).trans (by kernel_rfl)
theorem e4 (n m2:Nat)(s_:ByteArray)(i:Int):J4 n m2 (s_,i,())=J2 n m2 (s_,(IntKind.i64.wrap (i+(1:Int))),()):=(yac _).trans (by kernel_rfl)
theorem e5 (n:Nat):J5 n (())=some (true,()):=(yac _).trans (by kernel_rfl)
theorem ok (n:Nat):FnOk Tryz.prog 43 ia io (fRun (X n) n T Tryz.f43 ia io):=yaA mixed tabIs (yaj (yai (ycP.ok n)) (yaj (yai (ycv.ok n)) (yas))) Tryz.func43 (by kernel_rfl) rfl
def en (n:Nat):Entry:=yaw 43 ia io (fRun (X n) n T Tryz.f43 ia io)
end ybw
end
end Go.Proofs.YtemhlkdingkjnaaGreatDoor
namespace Go.Proofs.YtemhlkdingkjnaaGreatDoor
open Go Go.Va Go.Proofs
def lowB (b:UInt8):Bool:=(decide (97≤b.toNat)&&decide (b.toNat≤122))||(decide (48≤b.toNat)&&decide (b.toNat≤57))
def digB (b:UInt8):Bool:=decide (48≤b.toNat)&&decide (b.toNat≤57)
def lowT:List UInt8:=[97,98,99,100,101,102,103,104,105,106,107,108,109,110,111,112,113,114,115,116,117,118,119,120,121,122,48,49,50,51,52,53,54,55,56,57]
def digT:List UInt8:=[48,49,50,51,52,53,54,55,56,57]
theorem low_all:∀ n,n<256→(decide (Lib.indexByte lowT (UInt8.ofNat n)≥0)=lowB (UInt8.ofNat n)∧digT.contains (UInt8.ofNat n)=digB (UInt8.ofNat n)):=by decide +kernel
theorem ofNat_toNat (b:UInt8):UInt8.ofNat b.toNat=b:=by simp
theorem low_idx (b:UInt8):decide (Lib.indexByte lowT b≥0)=lowB b:=by
  have:=(low_all b.toNat b.toNat_lt).1;rwa [ofNat_toNat]at this
theorem dig_has (b:UInt8):digT.contains b=digB b:=by
  have:=(low_all b.toNat b.toNat_lt).2;rwa [ofNat_toNat]at this
theorem ref_low (n:Nat)(b:UInt8):ycP.f n (b.toNat:Int)=some (lowB b,()):=by
  rw[ycP.e0]
  simp only[yaN]
  unfold lowB
  have e1:decide ((b.toNat:Int)≥97)=decide (97≤b.toNat):=decide_eq_decide.2 (by omega)
  have e2:decide ((b.toNat:Int)≤122)=decide (b.toNat≤122):=decide_eq_decide.2 (by omega)
  have e3:decide ((b.toNat:Int)≥48)=decide (48≤b.toNat):=decide_eq_decide.2 (by omega)
  have e4:decide ((b.toNat:Int)≤57)=decide (b.toNat≤57):=decide_eq_decide.2 (by omega)
  rw[e1,e2,e3,e4]
  cases decide (97≤b.toNat)<;>cases decide (b.toNat≤122)<;>cases decide (48≤b.toNat)<;>cases decide (b.toNat≤57)<;>rfl
theorem among_low (n:Nat)(b:UInt8):yde.f n ⟨#[97,98,99,100,101,102,103,104,105,106,107,108,109,110,111,112,113,114,115,116,117,118,119,120,121,122,48,49,50,51,52,53,54,55,56,57]⟩ (b.toNat:Int)=some (lowB b,()):=by
  rw[yde.e0]
  unfold yc4.f
  rw[bnd_some,yaN]
  have e:((b.toNat:Int)).toNat.toUInt8=b:=by
    rw[Int.toNat_natCast]
    exact ofNat_toNat b
  rw[e]
  exact congrArg (λx=>some (x,())) (low_idx b)
def spl (c:UInt8):List UInt8→List (List UInt8)
  | []=>[[]]
  | b::r=>if b=c then []::spl c r else match spl c r with
    | []=>[[b]]
    | p::ps=>(b::p)::ps
theorem spl_ne (c:UInt8):∀ l,spl c l≠[]
  | []=>by simp[spl]
  | b::r=>by
    unfold spl
    split
    · simp
    · split<;>simp
theorem index_cons (b c:UInt8)(l:List UInt8):Lib.index (b::l) [c]=if b=c then 0 else if Lib.index l [c] = -1 then -1 else Lib.index l [c]+1:=by
  rw[Lib.index]
  by_cases h:b=c
  · subst h;simp[List.isPrefixOf]
  · rw[if_neg h]
    have hp:([c]:List UInt8).isPrefixOf (b::l)=false:=by simp[List.isPrefixOf,Ne.symm h]
    rw[hp]
    simp
theorem splitK_spl (c:UInt8):∀ l:List UInt8,Lib.splitK [c] 0 (Lib.count l [c]) l=spl c l
  | []=>by rw[Lib.count_one];rfl
  | b :: l=>by
    have ih:=splitK_spl c l
    by_cases h:b=c
    · subst h
      rw[Lib.count_cons_eq,Nat.add_comm,Lib.splitK,index_cons,if_pos rfl,if_neg (by decide)]
      unfold spl
      rw[if_pos rfl]
      change List.take 0 (b::l)::Lib.splitK [b] 0 (Lib.count l [b]) (List.drop 1 (b::l))=_
      rw[List.take_zero,List.drop_one,List.tail_cons,ih]
    · rw[Lib.count_cons_ne b c l h]
      unfold spl
      rw[if_neg h,← ih]
      cases hk:Lib.count l [c] with
      | zero=>rfl
      | succ k=>
        rw[Lib.splitK,Lib.splitK,index_cons,if_neg h]
        by_cases hm:Lib.index l [c] = -1
        · rw[if_pos hm,if_pos (by decide),if_pos (by rw[hm];decide)]
        · have hge:=Lib.index_ge l [c]
          obtain⟨j,hj⟩:∃ j:Nat,Lib.index l [c]=j:=⟨(Lib.index l [c]).toNat,by omega⟩
          rw[if_neg hm,hj,if_neg (by rw[beq_iff_eq];omega),if_neg (by rw[beq_iff_eq];omega),show ((j:Int)+1).toNat=j+1 by omega,show ((j:Int)).toNat=j by omega]
          rfl
def okP (p:List UInt8):Bool:=decide (1≤p.length)&&(decide (p.length≤3)&&p.all digB)
def addrL (l:List UInt8):Bool:=decide ((spl 46 l).length=4)&&(spl 46 l).all okP
theorem dropWhile_nil {α:Type}(p:α→Bool):∀ l:List α,(l.dropWhile p=[])↔l.all p=true
  | []=>by simp
  | x::l=>by
    rw[List.dropWhile_cons,List.all_cons]
    cases h:p x
    · simp
    · simp[dropWhile_nil p l]
theorem trimS_nil (l:List UInt8):(Lib.trimS l digT=[])↔l.all digB=true:=by
  have hd:(digT.contains ·)=digB:=funext dig_has
  unfold Lib.trimS Lib.trimLeftS Lib.trimRightS
  rw[hd,dropWhile_nil,List.all_reverse]
  constructor
  · intro h
    have:l.reverse.dropWhile digB=[]:=by
      cases hc:l.reverse.dropWhile digB with
      | nil=>rfl
      | cons x r=>
        have h1:=List.head?_dropWhile_not digB l.reverse
        rw[hc]at h1 h
        simp only[List.all_cons,Bool.and_eq_true]at h
        simp[h.1]at h1
    rw[dropWhile_nil,List.all_reverse]at this
    exact this
  · intro h
    have:l.reverse.dropWhile digB=[]:=by rw[dropWhile_nil,List.all_reverse];exact h
    rw[this];rfl
theorem all_map {α β:Type}(f:α→β)(p:β→Bool):∀ l:List α,(l.map f).all p=l.all λx=>p (f x)
  | []=>rfl
  | x::l=>by simp only[List.map_cons,List.all_cons,all_map f p l]
theorem label_address {n:Nat} (hn:300≤n) {s:ByteArray} (hs:s.size≤63):ybU.f n s=some (addrL s.data.toList,()):=by
  rw[ybU.e0]
  unfold ydC.f
  rw[if_pos ⟨by omega,by decide⟩,bnd_some]
  have hmap:=Lib.splitB_data ⟨#[46]⟩ 0 (Lib.countB s ⟨#[46]⟩) s
  have hlen:=Lib.splitB_all ⟨#[46]⟩ (by decide) 0 _ s rfl
  have hcl:=Lib.countB_le ⟨#[46]⟩ (by decide) s.size s (Nat.le_refl _)
  have hspl:(Lib.splitB ⟨#[46]⟩ 0 (Lib.countB s ⟨#[46]⟩) s).map (·.data.toList)=spl 46 s.data.toList:=hmap.trans (splitK_spl 46 s.data.toList)
  simp only[yaN]
  generalize Lib.splitB ⟨#[46]⟩ 0 (Lib.countB s ⟨#[46]⟩) s=t at hspl hlen
  unfold addrL
  rw[← hspl,List.length_map,all_map]
  have h1 := all_loop (l:=t) (⟨#[]⟩:ByteArray) (λx=>okP x.data.toList) (λm k=>ybU.J1 n m (t,((t.length:Nat):Int),k,())) (some (true,())) (some (false,()))
    (λm k hk=>by
      try dsimp only
      rw[ybU.e1,yaN,decide_eq_true (by omega),yap,yaq ⟨by omega,by omega⟩,Int.toNat_natCast,Nat.zero_add,ya7 k (by omega)]
      generalize t.getD k ⟨#[]⟩=x
      simp only[yaN]
      rw[size0]
      unfold okP
      have hx:=size_eq x
      have e1:decide (x.size=0)=!decide (1≤x.data.toList.length):=dec_not (by omega)
      have e2:decide ((x.size:Int)>3)=!decide (x.data.toList.length≤3):=dec_not (by omega)
      rw[e1,e2]
      by_cases h3:x.data.toList.length≤3
      · unfold ydQ.f
        rw[if_pos ⟨by omega,by decide,by decide⟩,bnd_some,decide_eq_true h3]
        have e3:eqS (⟨(Lib.trimS x.data.toList digT).toArray⟩:ByteArray) ⟨#[]⟩=x.data.toList.all digB:=by
          rw[size0]
          have hz:((⟨(Lib.trimS x.data.toList digT).toArray⟩:ByteArray).size=0)↔x.data.toList.all digB=true:=by
            rw[← trimS_nil]
            simp[ByteArray.size]
          by_cases h:x.data.toList.all digB=true
          · rw[h,decide_eq_true (hz.2 h)]
          · rw[decide_eq_false (λh'=>h (hz.1 h'))];simpa using h
        rw[show (#[48,49,50,51,52,53,54,55,56,57]:Array UInt8).toList=digT from rfl,e3]
        cases decide (1≤x.data.toList.length)<;>cases x.data.toList.all digB<;>rfl
      · rw[decide_eq_false h3]
        cases decide (1≤x.data.toList.length)<;>rfl)
    (λm=>by
      try dsimp only
      rw[ybU.e1,yaN,decide_eq_false (by omega),yam,ybU.e2]) n 0 (by omega) (by omega)
  try dsimp only at h1
  rw[show ((0:Nat):Int)=0 from rfl]at h1
  by_cases h4:t.length=4
  · rw[show (((t.length:Nat):Int) != 4)=false by rw[h4];rfl,yam,h1,decide_eq_true h4,List.drop_zero,bIf_bool];rfl
  · rw[show (((t.length:Nat):Int) != 4)=true by rw[bne_iff_ne];omega,yap,decide_eq_false h4];rfl
def fourL:Nat→Nat→List UInt8→Bool
  | p,d,[]=>decide (p=3)&&decide (0<d)
  | p,d,b::r=>if b=46 then decide (0<d)&&fourL (p+1) 0 r else digB b&&(decide (d+1≤3)&&fourL p (d+1) r)
theorem fourL_spl:∀ (l:List UInt8) (p d:Nat),d≤3→fourL p d l=match spl 46 l with
    | []=>false
    | x::ps=>(decide (0<d+x.length)&&(decide (d+x.length≤3)&&x.all digB))&&(decide (p+ps.length=3)&&ps.all okP)
  | [],p,d,hd=>by
    unfold fourL spl
    simp only[List.length_nil,Nat.add_zero,List.all_nil,decide_eq_true hd,Bool.and_true,Bool.true_and]
    cases decide (p=3)<;>cases decide (0<d)<;>rfl
  | b :: r,p,d,hd=>by
    unfold fourL spl
    by_cases h:b=46
    · rw[if_pos h,if_pos h,fourL_spl r (p+1) 0 (by omega)]
      cases hs:spl 46 r with
      | nil=>exact absurd hs (spl_ne 46 r)
      | cons x ps=>
        simp only[List.length_nil,Nat.add_zero,List.all_nil,decide_eq_true hd,Bool.and_true,List.length_cons,List.all_cons,Nat.zero_add]
        have e1:decide (p+1+ps.length=3)=decide (p+(ps.length+1)=3):=decide_eq_decide.2 (by omega)
        have e2:decide (0<x.length)=decide (1≤x.length):=rfl
        rw[e1,e2]
        unfold okP
        cases decide (0<d)<;>cases decide (1≤x.length)<;>cases decide (x.length≤3)<;>cases x.all digB<;>cases decide (p+(ps.length+1)=3)<;>cases ps.all okP<;>rfl
    · rw[if_neg h,if_neg h]
      by_cases h3:d+1≤3
      · rw[fourL_spl r p (d+1) h3]
        cases hs:spl 46 r with
        | nil=>exact absurd hs (spl_ne 46 r)
        | cons x ps=>
          simp only[List.length_cons,List.all_cons]
          rw[decide_eq_true h3,show d+1+x.length=d+(x.length+1) by omega]
          cases digB b<;>cases decide (0<d+(x.length+1))<;>cases decide (d+(x.length+1)≤3)<;>cases x.all digB<;>rfl
      · rw[decide_eq_false h3]
        cases hs:spl 46 r with
        | nil=>exact absurd hs (spl_ne 46 r)
        | cons x ps=>
          simp only[List.length_cons]
          rw[decide_eq_false (show ¬ (d+(x.length+1)≤3) by omega)]
          simp
theorem fourL_addr (l:List UInt8):fourL 0 0 l=addrL l:=by
  rw[fourL_spl l 0 0 (by omega)]
  unfold addrL
  cases hs:spl 46 l with
  | nil=>exact absurd hs (spl_ne 46 l)
  | cons x ps=>
    simp only[List.length_cons,List.all_cons,Nat.zero_add]
    have e1:decide (ps.length=3)=decide (ps.length+1=4):=decide_eq_decide.2 (by omega)
    rw[e1]
    unfold okP
    have e2:decide (0<x.length)=decide (1≤x.length):=rfl
    rw[e2]
    cases decide (1≤x.length)<;>cases decide (x.length≤3)<;>cases x.all digB<;>cases decide (ps.length+1=4)<;>simp
theorem ref_four_J (n:Nat) (s:ByteArray) (hs:s.size≤63):∀ (m k p d:Nat),k≤s.size→s.size-k<m→p≤k→d≤3 →
    ycv.J1 n m (s,(p:Int),(d:Int),(k:Int),())=some (fourL p d (s.data.toList.drop k),())
  | 0,k,p,d,_,h,_,_=>by omega
  | m + 1,k,p,d,hk,h,hp,hd=>by
    have hsz:=size_eq s
    rw[ycv.e1]
    simp only[yaN]
    by_cases hlt:k<s.size
    · rw[decide_eq_true (by omega),yap,yaq ⟨by omega,by omega⟩,bt_nat,drop_getD s.data.toList (k:=k) (by omega)]
      have e1:(((s.data.toList.getD k 0).toNat:Int)==46)=decide (s.data.toList.getD k 0=46):=u8_eq (c:=46) (by decide)
      rw[e1]
      generalize s.data.toList.getD k 0=b
      unfold fourL
      have ih:=λp' d' h1 h2=>ref_four_J n s hs m (k+1) p' d' (by omega) (by omega) h1 h2
      by_cases hb:b=46
      · rw[decide_eq_true hb,yap,if_pos hb]
        by_cases h0:0<d
        · rw[beq_false_of_ne (by omega),yam,decide_eq_true h0,Bool.true_and,ycv.e2,ya7 k (by omega),ya7 p (by omega)]
          exact ih (p+1) 0 (by omega) (by omega)
        · rw[beq_iff_eq.2 (by omega),yap,decide_eq_false h0];rfl
      · rw[decide_eq_false hb,yam,if_neg hb,yaq ⟨by omega,by omega⟩,yaq ⟨by omega,by omega⟩,ya7 d (by omega)]
        unfold digB
        have e2:decide ((b.toNat:Int)<48)=!decide (48≤b.toNat):=dec_not (by omega)
        have e3:decide ((b.toNat:Int)>57)=!decide (b.toNat≤57):=dec_not (by omega)
        have e4:decide (((d+1:Nat):Int)>3)=!decide (d+1≤3):=dec_not (by omega)
        rw[e2,e3,e4,ycv.e2,ya7 k (by omega)]
        by_cases h3:d+1≤3
        · rw[ih p (d+1) (by omega) h3,decide_eq_true h3]
          cases decide (48≤b.toNat)<;>cases decide (b.toNat≤57)<;>rfl
        · rw[decide_eq_false h3]
          cases decide (48≤b.toNat)<;>cases decide (b.toNat≤57)<;>rfl
    · have hkk:k=s.size:=by omega
      subst hkk
      rw[decide_eq_false (by omega),yam,ycv.e3,hsz,List.drop_length]
      unfold fourL
      simp only[yaN,bIf_and]
      have e1:((p:Int)==3)=decide (p=3):=by
        by_cases h:p=3
        · subst h;rfl
        · rw[decide_eq_false h];exact beq_false_of_ne (by omega)
      have e2:decide ((d:Int)>0)=decide (0<d):=decide_eq_decide.2 (by omega)
      rw[e1,e2]
theorem ref_four {n:Nat}(hn:300≤n){s:ByteArray}(hs:s.size≤63):ycv.f n s=some (addrL s.data.toList,()):=by
  rw[ycv.e0]
  have:=ref_four_J n s hs n 0 0 0 (by omega) (by omega) (by omega) (by omega)
  rw[List.drop_zero,fourL_addr]at this
  exact this
def badN (c d:UInt8):Bool:=(decide (d=46)||decide (d=45))&&(decide (c=46)||decide (d=46))
def mid (c:UInt8):Bool:=decide (c=45)||decide (c=46)
def nxt (c:UInt8):List UInt8→Bool
  | []=>false
  | d::_=>!badN c d
def lab:Bool→List UInt8→Bool
  | _,[]=>true
  | first,c::r=>(lowB c||(mid c&&(!first&&nxt c r)))&&lab false r
def pairOk (p c:UInt8):Bool:=lowB c||(lowB p||(decide (c=45)&&decide (p=45)))
def rfl':Option UInt8→List UInt8→Bool
  | _,[]=>true
  | o,c::r=>(lowB c||mid c)&&((match o with | none=>true | some p=>pairOk p c)&&rfl' (some c) r)
def lastLow:List UInt8→Bool
  | []=>true
  | [c]=>lowB c
  | _::d::r=>lastLow (d::r)
theorem lab_rfl : ∀ (r:List UInt8) (p:UInt8),(lowB p||mid p)=true→((lowB p||nxt p r)&&lab false r)=(lastLow (p::r)&&rfl' (some p) r)
  | [],p,hp=>by
    simp only[lab,rfl',lastLow,nxt,Bool.or_false]
  | c :: r, p,hp=>by
    have ih:=lab_rfl r c
    unfold lab rfl' lastLow
    by_cases hc:(lowB c||mid c)=true
    · have ih := ih hc
      rw[hc,Bool.true_and]
      have e1:(lowB c||(mid c&&(!false&&nxt c r)))=(lowB c||nxt c r):=by
        cases hl:lowB c
        · rw[hl]at hc;simp only[Bool.false_or]at hc;rw[hc];simp
        · simp
      rw[e1,ih]
      have e2 : (lowB p||nxt p (c::r))=pairOk p c:=by
        unfold pairOk nxt badN
        unfold mid at hp hc
        cases hl:lowB p
        · rw[hl]at hp
          cases hl2:lowB c
          · rw[hl2]at hc
            by_cases a1:c=45
            · by_cases a2:p=45
              · subst a1 a2;rfl
              · have a3:p=46:=by simpa[a2]using hp
                subst a1 a3;rfl
            · have a3:c=46:=by simpa[a1]using hc
              subst a3;simp
          · have:c≠46∧c≠45:=by constructor<;>(intro h;subst h;revert hl2;decide)
            simp[this.1,this.2]
        · simp
      rw[e2]
      change (pairOk p c&&(lastLow (c::r)&&rfl' (some c) r))=(lastLow (c::r)&&(pairOk p c&&rfl' (some c) r))
      cases pairOk p c<;>cases lastLow (c::r)<;>simp
    · have hl:lowB c=false:=by cases h:lowB c<;>simp_all
      have hm:mid c=false:=by cases h:mid c<;>simp_all
      rw[hl,hm];simp
def ydP (s:ByteArray):Bool:=decide (3≤s.size)&&(decide (s.size≤63)&&(!addrL s.data.toList&&lab true s.data.toList))
theorem lab_first (c:UInt8)(r:List UInt8)(hr:r≠[]):lab true (c::r)=(lowB c&&(lastLow (c::r)&&rfl' none (c::r))):=by
  conv=>lhs;unfold lab
  conv=>rhs;unfold rfl'
  cases hl:lowB c
  · simp
  · have:=lab_rfl r c (by rw[hl];rfl)
    rw[hl]at this
    simp only[Bool.true_or,Bool.true_and]at this ⊢
    rw[this]
theorem u8_ne {b:UInt8}{c:Nat}(hc:c<256):((b.toNat:Int) != (c:Int))=!decide (b=UInt8.ofNat c):=by rw[← u8_eq hc];rfl
theorem bucket_J (n:Nat) (s:ByteArray) (hs:s.size≤63):∀ (m k:Nat),k≤s.size→s.size-k<m →
    ybN.J2 n m (s,(s.size:Int),(k:Int),())=some (lab (decide (k=0)) (s.data.toList.drop k),())
  | 0,k,_,h=>by omega
  | m + 1,k,hk,h=>by
    have hsz:=size_eq s
    rw[ybN.e2]
    simp only[yaN]
    by_cases hlt:k<s.size
    · have ih:=bucket_J n s hs m (k+1) (by omega) (by omega)
      rw[decide_eq_false (show ¬ (k+1=0) by omega)]at ih
      have hg:(0≤(k:Int)∧(k:Int)<(s.size:Int)):=⟨by omega,by omega⟩
      simp only[yaq hg]
      rw[decide_eq_true (by omega),yap,bt_nat,among_low,bnd_some,ya7 k (by omega),ih,ybn (x:=(s.size:Int)-1) (by omega)]
      rw[drop_getD s.data.toList (k:=k) (by omega)]
      have e1:(((s.data.toList.getD k 0).toNat:Int) != 45)=!decide (s.data.toList.getD k 0=45):=u8_ne (c:=45) (by decide)
      have e2:(((s.data.toList.getD k 0).toNat:Int) != 46)=!decide (s.data.toList.getD k 0=46):=u8_ne (c:=46) (by decide)
      rw[e1,e2]
      generalize hc:s.data.toList.getD k 0=c
      conv=>rhs;unfold lab
      have e3:((k:Int)==0)=decide (k=0):=by
        by_cases h0:k=0
        · subst h0;rfl
        · rw[decide_eq_false h0];exact beq_false_of_ne (by omega)
      have e4:((k:Int)==(s.size:Int)-1)=decide (k+1=s.size):=by
        by_cases h0:k+1=s.size
        · rw[decide_eq_true h0];exact beq_iff_eq.2 (by omega)
        · rw[decide_eq_false h0];exact beq_false_of_ne (by omega)
      rw[e3,e4]
      cases hl:lowB c
      · simp only[yam]
        unfold mid
        by_cases hend:k+1=s.size
        · rw[decide_eq_true hend,show s.data.toList.drop (k+1)=[] from List.drop_eq_nil_of_le (by omega)]
          cases decide (c=45)<;>cases decide (c=46)<;>cases decide (k=0)<;>rfl
        · rw[decide_eq_false hend]
          have hJ3:ybN.J3 n m (s,(k:Int),(s.size:Int),(k:Int),())=some (!badN c (s.data.toList.getD (k+1) 0)&&lab false (s.data.toList.drop (k+1)),()):=by
            rw[ybN.e3,ya7 k (by omega),yaq ⟨by omega,by omega⟩,bt_nat,bt_nat,hc,ih]
            simp only[yaN,yaq hg]
            have f1:(((s.data.toList.getD (k+1) 0).toNat:Int)==46)=decide (s.data.toList.getD (k+1) 0=46):=u8_eq (c:=46) (by decide)
            have f2:(((s.data.toList.getD (k+1) 0).toNat:Int)==45)=decide (s.data.toList.getD (k+1) 0=45):=u8_eq (c:=45) (by decide)
            have f3:((c.toNat:Int)==46)=decide (c=46):=u8_eq (c:=46) (by decide)
            rw[f1,f2,f3]
            unfold badN
            cases decide (s.data.toList.getD (k+1) 0=46)<;>cases decide (s.data.toList.getD (k+1) 0=45)<;>cases decide (c=46)<;>rfl
          rw[hJ3]
          have hm:nxt c (s.data.toList.drop (k+1))=!badN c (s.data.toList.getD (k+1) 0):=by
            rw[drop_getD s.data.toList (k:=k+1) (by omega)];rfl
          rw[hm]
          cases decide (c=45)<;>cases decide (c=46)<;>cases decide (k=0)<;>simp[yap,yam]
      · simp only[yap,Bool.true_or,Bool.true_and]
    · have hkk:k=s.size:=by omega
      subst hkk
      rw[decide_eq_false (by omega),yam,ybN.e4,hsz,List.drop_length]
      rfl
theorem label_Bucket {n:Nat}(hn:300≤n)(s:ByteArray):ybN.f n s=some (ydP s,()):=by
  rw[ybN.e0]
  simp only[yaN]
  unfold ydP
  have e1:decide ((s.size:Int)<3)=!decide (3≤s.size):=dec_not (by omega)
  have e2:decide ((s.size:Int)>63)=!decide (s.size≤63):=dec_not (by omega)
  rw[e1,e2]
  by_cases h:s.size≤63
  · rw[label_address hn h,bnd_some,decide_eq_true h,ybN.e1]
    have:=bucket_J n s h n 0 (by omega) (by omega)
    rw[show ((0:Nat):Int)=0 from rfl,List.drop_zero]at this
    rw[this]
    cases decide (3≤s.size)<;>cases addrL s.data.toList<;>simp[yap,yam]
  · rw[decide_eq_false h]
    cases decide (3≤s.size)<;>rfl
def prevU (l:List UInt8)(k:Nat):Option UInt8:=if k=0 then none else some (l.getD (k-1) 0)
theorem ref_bucket_J (n:Nat) (s:ByteArray) (hs:s.size≤63):∀ (m k:Nat),k≤s.size→s.size-k<m →
    ybw.J2 n m (s,(k:Int),())=some (rfl' (prevU s.data.toList k) (s.data.toList.drop k),())
  | 0,k,_,h=>by omega
  | m + 1,k,hk,h=>by
    have hsz:=size_eq s
    rw[ybw.e2]
    simp only[yaN]
    by_cases hlt:k<s.size
    · have ih:=ref_bucket_J n s hs m (k+1) (by omega) (by omega)
      have hg:(0≤(k:Int)∧(k:Int)<(s.size:Int)):=⟨by omega,by omega⟩
      simp only[yaq hg]
      rw[decide_eq_true (by omega),yap,bt_nat,ref_low,bnd_some]
      rw[drop_getD s.data.toList (k:=k) (by omega)]
      have e1:(((s.data.toList.getD k 0).toNat:Int) != 45)=!decide (s.data.toList.getD k 0=45):=u8_ne (c:=45) (by decide)
      have e2:(((s.data.toList.getD k 0).toNat:Int) != 46)=!decide (s.data.toList.getD k 0=46):=u8_ne (c:=46) (by decide)
      have e5:(((s.data.toList.getD k 0).toNat:Int)==45)=decide (s.data.toList.getD k 0=45):=u8_eq (c:=45) (by decide)
      rw[e1,e2]
      have hp:prevU s.data.toList (k+1)=some (s.data.toList.getD k 0):=by unfold prevU;rw[if_neg (by omega),Nat.add_sub_cancel]
      rw[hp]at ih
      have hJ4:ybw.J4 n m (s,(k:Int),())=some (rfl' (some (s.data.toList.getD k 0)) (s.data.toList.drop (k+1)),()):=by
        rw[ybw.e4,ya7 k (by omega),ih]
      have hJ3:ybw.J3 n m (s,(k:Int),())=some ((match prevU s.data.toList k with | none=>true | some p=>pairOk p (s.data.toList.getD k 0))&&rfl' (some (s.data.toList.getD k 0)) (s.data.toList.drop (k+1)),()):=by
        rw[ybw.e3]
        simp only[yaN,yaq hg]
        by_cases h0:k=0
        · subst h0
          rw[decide_eq_false (by omega),yam,hJ4];rfl
        · have hw:IntKind.i64.wrap ((k:Int)-1)=((k-1:Nat):Int):=by rw[ybn (by omega)];omega
          have hg2:(0≤((k-1:Nat):Int)∧((k-1:Nat):Int)<(s.size:Int)):=⟨by omega,by omega⟩
          rw[hw,decide_eq_true (by omega),yap]
          simp only[yaq hg2]
          rw[bt_nat,bt_nat,ref_low,ref_low,bnd_some,bnd_some,e5,hJ4]
          have e6:(((s.data.toList.getD (k-1) 0).toNat:Int)==45)=decide (s.data.toList.getD (k-1) 0=45):=u8_eq (c:=45) (by decide)
          rw[e6]
          unfold prevU
          rw[if_neg h0]
          change _=some (pairOk (s.data.toList.getD (k-1) 0) (s.data.toList.getD k 0)&&rfl' (some (s.data.toList.getD k 0)) (s.data.toList.drop (k+1)),())
          unfold pairOk
          generalize s.data.toList.getD k 0=c
          generalize s.data.toList.getD (k-1) 0=p
          cases lowB c<;>cases lowB p<;>cases decide (c=45)<;>cases decide (p=45)<;>rfl
      rw[hJ3]
      conv=>rhs;unfold rfl'
      unfold mid
      generalize s.data.toList.getD k 0=c
      cases lowB c<;>cases decide (c=45)<;>cases decide (c=46)<;>simp[yap,yam]
    · have hkk:k=s.size:=by omega
      subst hkk
      rw[decide_eq_false (by omega),yam,ybw.e5,hsz,List.drop_length]
      cases prevU s.data.toList s.data.toList.length<;>rfl
theorem lastLow_getD:∀ (l:List UInt8),l≠[]→lastLow l=lowB (l.getD (l.length-1) 0)
  | [],h=>absurd rfl h
  | [c],_=>rfl
  | c::d::r,_=>by
    unfold lastLow
    rw[lastLow_getD (d::r) (by simp)]
    simp
theorem ref06_Bucket {n:Nat} (hn:300≤n) (s:ByteArray):ybw.f n s=some (ydP s,()):=by
  rw[ybw.e0]
  simp only[yaN]
  unfold ydP
  have e1:decide ((s.size:Int)<3)=!decide (3≤s.size):=dec_not (by omega)
  have e2:decide ((s.size:Int)>63)=!decide (s.size≤63):=dec_not (by omega)
  rw[e1,e2]
  by_cases h3:3≤s.size
  · by_cases h:s.size≤63
    · have hsz:=size_eq s
      have hw:IntKind.i64.wrap ((s.size:Int)-1)=((s.size-1:Nat):Int):=by rw[ybn (by omega)];omega
      have hg0:(0≤(0:Int)∧(0:Int)<(s.size:Int)):=⟨by omega,by omega⟩
      have hg1:(0≤((s.size-1:Nat):Int)∧((s.size-1:Nat):Int)<(s.size:Int)):=⟨by omega,by omega⟩
      simp only[hw,yaq hg0,yaq hg1]
      rw[decide_eq_true h3,decide_eq_true h,show bt s 0=bt s ((0:Nat):Int) from rfl,bt_nat,bt_nat,ref_low,ref_low,bnd_some,bnd_some,ref_four hn h,bnd_some,ybw.e1]
      have:=ref_bucket_J n s h n 0 (by omega) (by omega)
      rw[show ((0:Nat):Int)=0 from rfl,List.drop_zero]at this
      rw[this]
      cases hl:s.data.toList with
      | nil=>exact absurd (congrArg List.length hl) (by rw[← hsz];simp only[List.length_nil];omega)
      | cons c r=>
        have hr:r≠[]:=by
          intro hr;subst hr;rw[hl]at hsz;simp at hsz;omega
        rw[lab_first c r hr,lastLow_getD (c::r) (by simp)]
        have ea:(c::r).getD 0 0=c:=rfl
        have eb:(c::r).length=s.size:=by rw[hsz,hl]
        rw[ea,eb]
        have ep:prevU (c::r) 0=none:=rfl
        rw[ep]
        cases lowB c<;>cases lowB ((c::r).getD (s.size-1) 0)<;>cases addrL (c::r)<;>simp[yap,yam]
    · rw[decide_eq_false h]
      cases decide (3≤s.size)<;>rfl
  · rw[decide_eq_false h3];rfl
end Go.Proofs.YtemhlkdingkjnaaGreatDoor
namespace Go.Proofs.YtemhlkdingkjnaaGreatDoor
open Go Go.Va Go.Proofs
noncomputable section
namespace ycK
abbrev ia:List Ai:=[.dat yae,.dat yae]
abbrev io:List (Nat×Oi):=[(4,.dat .bool)]
abbrev R:Type:=DOut ia io
def X (n:Nat):Ctx:=⟨⟨tab,[],0,[]⟩,17,bnOf 0 ia⟩
def T:CT := .o
def f (n:Nat)(v_:yak)(last:yak):Option R:=fRun (X n) n T Tryz.f183 ia io (v_,last,())
theorem e0 (n:Nat)(v_:yak)(last:yak):f n v_ last=bIf ((hide (decide (v_.1>last.1)))) (some ((hide (decide (v_.2.2.2.2.2.1≥last.2.2.2.2.2.1))),())) (some (false,())):=(yac _).trans (by kernel_rfl)
theorem ok (n:Nat):FnOk Tryz.prog 183 ia io (fRun (X n) n T Tryz.f183 ia io):=yaA mixed tabIs (yas) Tryz.func183 (by kernel_rfl) rfl
def en (n:Nat):Entry:=yaw 183 ia io (fRun (X n) n T Tryz.f183 ia io)
end ycK
namespace ycg
abbrev ia:List Ai:=[.dat (.slice yae)]
abbrev io:List (Nat×Oi):=[(2,.dat .bool)]
abbrev R:Type:=DOut ia io
def X (n:Nat):Ctx:=⟨⟨tab,[ycD.en n,ycK.en n],0,[]⟩,30,bnOf 0 ia⟩
abbrev g1:List Si:=[.dat 0 (.slice yae),.dat 5 (.slice yae),.dat 6 (.int .i64),.dat 7 (.int .i64)]
abbrev g2:List Si:=[]
def T:CT:=(.s .o (.s (.s .o (.b (.l g1 .o))) (.r g2 .o)))
def J1 (n:Nat)(m:Nat):(List (yak))×(List (yak))×Int×Int×Unit→Option R:=jL (X n) n T (yau Tryz.f119) (endK ia io) g1 [1,0,1,0] [] m
def J2 (n:Nat):Unit→Option R:=jR (X n) n T (yau Tryz.f119) (endK ia io) g2 [1,1] []
def f (n:Nat)(list:List (yak)):Option R:=fRun (X n) n T Tryz.f119 ia io (list,())
theorem e0 (n:Nat)(list:List (yak)):f n list=J1 n n (list,list,((list.length:Nat):Int),0,()):=(yac _).trans (by kernel_rfl)
theorem e1 (n m:Nat)(list:List (yak))(t5:List (yak))(t6:Int)(t7:Int):J1 n (m+1) (list,t5,t6,t7,())=bIf ((hide (decide (t7<t6)))) (gIf (0≤t7∧t7<((t5.length:Nat):Int)) (bnd (ycD.f n (List.getD t5 t7.toNat (Va.dflt yae))) λu1=>bIf ((!u1.1)) (some (false,())) (bIf ((hide (decide (t7>(0:Int))))) (gIf (0≤(IntKind.i64.wrap (t7-(1:Int)))∧(IntKind.i64.wrap (t7-(1:Int)))<((list.length:Nat):Int)) (bnd (ycK.f n (List.getD t5 t7.toNat (Va.dflt yae)) (List.getD list ((IntKind.i64.wrap (t7-(1:Int))).toNat) (Va.dflt yae))) λu2=>bIf ((!u2.1)) (some (false,())) (J1 n m (list,t5,t6,(IntKind.i64.wrap (t7+(1:Int))),())))) (J1 n m (list,t5,t6,(IntKind.i64.wrap (t7+(1:Int))),()))))) (J2 n (())):=(yac _).trans (by kernel_rfl)
theorem e2 (n:Nat):J2 n (())=some (true,()):=(yac _).trans (by kernel_rfl)
theorem ok (n:Nat):FnOk Tryz.prog 119 ia io (fRun (X n) n T Tryz.f119 ia io):=yaA mixed tabIs (yaj (yai (ycD.ok n)) (yaj (yai (ycK.ok n)) (yas))) Tryz.func119 (by kernel_rfl) rfl
def en (n:Nat):Entry:=yaw 119 ia io (fRun (X n) n T Tryz.f119 ia io)
end ycg
namespace yck
abbrev ia:List Ai:=[.dat yag]
abbrev io:List (Nat×Oi):=[(2,.dat .bool)]
abbrev R:Type:=DOut ia io
def X (n:Nat):Ctx:=⟨⟨tab,[ycO.en n,ycg.en n],0,[]⟩,17,bnOf 0 ia⟩
def T:CT := .o
def f (n:Nat)(o:yad):Option R:=fRun (X n) n T Tryz.f76 ia io (o,())
theorem e0 (n:Nat)(o:yad):f n o=bnd (ycO.f n o.1) λu1=>bIf (u1.1) (bIf ((hide (decide (((o.2.1.length:Nat):Int)>(0:Int))))) (bnd (ycg.f n o.2.1) λu2=>some (u2.1,())) (some (false,()))) (some (false,())):=(yac _).trans (by kernel_rfl)
theorem ok (n:Nat):FnOk Tryz.prog 76 ia io (fRun (X n) n T Tryz.f76 ia io):=yaA mixed tabIs (yaj (yai (ycO.ok n)) (yaj (yai (ycg.ok n)) (yas))) Tryz.func76 (by kernel_rfl) rfl
def en (n:Nat):Entry:=yaw 76 ia io (fRun (X n) n T Tryz.f76 ia io)
end yck
end
end Go.Proofs.YtemhlkdingkjnaaGreatDoor
namespace Go.Proofs.YtemhlkdingkjnaaGreatDoor
open Go Go.Va Go.Proofs
theorem yaS (x:Bool):hide x=x:=by cases x<;>rw[yaN]
def behB (last v:Ver):Bool:=decide (v.1>last.1)&&decide (made v≥made last)
theorem object_behind (n:Nat)(v last:Ver):ycK.f n v last=some (behB last v,()):=by
  rw[ycK.e0]
  simp only[yaS]
  exact bIf_and _ _
def risB (l:List Ver):Bool:=chk verB behB none l
structure LB (n:Nat)(l:List Ver):Prop where
  len:l.length<n
  all:∀ v∈l,VB n v
theorem rising_J (n:Nat) (hn:n≤536870912) (l:List Ver) (hl:LB n l):∀ (m k:Nat),k≤l.length→l.length-k<m →
    ycg.J1 n m (l,l,((l.length:Nat):Int),(k:Int),())=some (chk verB behB (prev l k) (l.drop k),())
  | 0,k,_,h=>by omega
  | m + 1,k,hk,h=>by
    have hl1:=hl.len
    rw[ycg.e1]
    simp only[yaS]
    by_cases hlt:k<l.length
    · have ih:=rising_J n hn l hl m (k+1) (by omega) (by omega)
      rw[decide_eq_true (by omega),yap,yaq ⟨by omega,by omega⟩,Int.toNat_natCast,ver18 hn (hl.all _ (ybr hlt)),bnd_some,ya7 k (by omega),ih]
      by_cases h0:k=0
      · subst h0
        rw[chk_zero (d:=Va.dflt yae) (by omega),decide_eq_false (show ¬ (((0:Nat):Int)>0) by simp),yam]
        cases verB (l.getD 0 (Va.dflt yae))<;>rfl
      · rw[chk_succ (d:=Va.dflt yae) (by omega) hlt,decide_eq_true (show (k:Int)>0 by omega),yap,ybn (x:=(k:Int)-1) (by omega),yaq ⟨by omega,by omega⟩,show ((k:Int)-1).toNat=k-1 by omega,object_behind,bnd_some]
        dsimp only
        cases verB (l.getD k (Va.dflt yae))<;>cases behB (l.getD (k-1) (Va.dflt yae)) (l.getD k (Va.dflt yae))<;>rfl
    · rw[decide_eq_false (by omega),yam,ycg.e2,chk_end (by omega)]
theorem object_rising {n:Nat}(hn:n≤536870912){l:List Ver}(hl:LB n l):ycg.f n l=some (risB l,()):=by
  rw[ycg.e0]
  exact rising_J n hn l hl n 0 (by omega) (by have:=hl.len;omega)
def soundB (o:yad):Bool:=keyB o.1&&(decide (1≤o.2.1.length)&&risB o.2.1)
structure OB (n:Nat)(o:yad):Prop where
  key:o.1.size<n
  list:LB n o.2.1
theorem object_Sound {n:Nat}(hn:n≤536870912){o:yad}(ho:OB n o):yck.f n o=some (soundB o,()):=by
  rw[yck.e0,key24 ho.key hn,object_rising hn ho.list]
  simp only[yaS,bnd_some]
  unfold soundB
  rw[show decide (((o.2.1.length:Nat):Int)>0)=decide (1≤o.2.1.length) from decide_eq_decide.2 (by omega)]
  cases keyB o.1<;>cases decide (1≤o.2.1.length)<;>rfl
end Go.Proofs.YtemhlkdingkjnaaGreatDoor
namespace Go.Proofs.YtemhlkdingkjnaaGreatDoor
open Go Go.Va Go.Proofs
noncomputable section
namespace ybf
abbrev ia:List Ai:=[.ptr (.p (.d yah) (.p (.d (.int .i64)) (.p (.m 0 (.int .u64) .bool) (.d .unit)))),.dat (.int .u64)]
abbrev io:List (Nat×Oi):=[(4,.dat .bool)]
abbrev R:Type:=DOut ia io
def X (n:Nat):Ctx:=⟨⟨tab,[],0,[]⟩,29,bnOf 0 ia⟩
abbrev g1:List Si:=[.ref 0 500000 ycu,.dat 1 (.int .u64),.box 500000 (.p (.d yah) (.p (.d (.int .i64)) (.p (.m 100000500000000 (.int .u64) .bool) (.d .unit))))]
def T:CT:=(.s .o (.s .o (.r g1 .o)))
def J1 (n:Nat):Int×yao×Unit→Option R:=jR (X n) n T (yau Tryz.f171) (endK ia io) g1 [1,1] []
def f (n:Nat)(c:yao)(n_:Int):Option R:=fRun (X n) n T Tryz.f171 ia io (c,n_,())
theorem e0 (n:Nat)(c:yao)(n_:Int):f n c n_=bIf ((hide (decide (n_<(1:Int))))) (some (false,c,())) (bIf ((hide (decide (n_≥c.1.2.1)))) (some (false,c,())) (bIf ((mGet (.int .u64) .bool c.2.2.1 n_).1) (some (false,c,())) (J1 n (n_,c,())))):=(yac _).trans (by kernel_rfl)
theorem e1 (n:Nat)(n_:Int)(c:yao):J1 n (n_,c,())=some (true,(c.1,(c.2.1,((mSet (.int .u64) .bool c.2.2.1 n_ true),c.2.2.2))),()):=(yac _).trans (by kernel_rfl)
theorem ok (n:Nat):FnOk Tryz.prog 171 ia io (fRun (X n) n T Tryz.f171 ia io):=yaA mixed tabIs (yas) Tryz.func171 (by kernel_rfl) rfl
def en (n:Nat):Entry:=yaw 171 ia io (fRun (X n) n T Tryz.f171 ia io)
end ybf
namespace yaV
abbrev ia:List Ai:=[.ptr (.p (.d yah) (.p (.d (.int .i64)) (.p (.m 0 (.int .u64) .bool) (.d .unit)))),.dat yag]
abbrev io:List (Nat×Oi):=[(4,.dat .bool)]
abbrev R:Type:=DOut ia io
def X (n:Nat):Ctx:=⟨⟨tab,[yck.en n,ybf.en n],0,[]⟩,53,bnOf 0 ia⟩
abbrev g1:List Si:=[.ref 0 500000 ycu,.ref 3 3 yag,.dat 11 (.slice yae),.dat 12 (.int .i64),.dat 13 (.int .i64),.box 3 (.d yag),.box 500000 (.p (.d yah) (.p (.d (.int .i64)) (.p (.m 100000500000000 (.int .u64) .bool) (.d .unit))))]
abbrev g2:List Si:=[.ref 0 500000 ycu,.ref 3 3 yag,.box 3 (.d yag),.box 500000 (.p (.d yah) (.p (.d (.int .i64)) (.p (.m 100000500000000 (.int .u64) .bool) (.d .unit))))]
def T:CT:=(.s .o (.s .o (.s (.s .o (.b (.l g1 .o))) (.r g2 .o))))
def J1 (n:Nat)(m:Nat):(List (yak))×Int×Int×yad×yao×Unit→Option R:=jL (X n) n T (yau Tryz.f109) (endK ia io) g1 [1,1,0,1,0] [] m
def J2 (n:Nat):yad×yao×Unit→Option R:=jR (X n) n T (yau Tryz.f109) (endK ia io) g2 [1,1,1] []
def f (n:Nat)(c:yao)(o:yad):Option R:=fRun (X n) n T Tryz.f109 ia io (c,o,())
theorem e0 (n:Nat)(c:yao)(o:yad):f n c o=bnd (yck.f n o) λu1=>bIf ((!u1.1)) (some (false,c,())) (J1 n n (o.2.1,((o.2.1.length:Nat):Int),0,o,c,())):=(yac _).trans (by kernel_rfl)
theorem e1 (n m:Nat)(t11:List (yak))(t12:Int)(t13:Int)(o:yad)(c:yao):J1 n (m+1) (t11,t12,t13,o,c,())=bIf ((hide (decide (t13<t12)))) (gIf (0≤t13∧t13<((t11.length:Nat):Int)) (bnd (ybf.f n c ((List.getD t11 t13.toNat (Va.dflt yae)).1)) λu1=>bIf ((!u1.1)) (some (false,u1.2.1,())) (bIf ((hide (decide ((((((((List.getD t11 t13.toNat (Va.dflt yae)).2).2).2).2).2).1)>u1.2.1.1.1)))) (some (false,u1.2.1,())) (bIf ((hide (decide ((((((List.getD t11 t13.toNat (Va.dflt yae)).2).2).2).1)≥u1.2.1.1.2.2.1)))) (some (false,u1.2.1,())) (J1 n m (t11,t12,(IntKind.i64.wrap (t13+(1:Int))),o,u1.2.1,())))))) (J2 n (o,c,())):=(yac _).trans (by kernel_rfl)
theorem e2 (n:Nat)(o:yad)(c:yao):J2 n (o,c,())=some (true,(c.1,((IntKind.i64.wrap (c.2.1+((o.2.1.length:Nat):Int))),c.2.2)),()):=(yac _).trans (by kernel_rfl)
theorem ok (n:Nat):FnOk Tryz.prog 109 ia io (fRun (X n) n T Tryz.f109 ia io):=yaA mixed tabIs (yaj (yai (yck.ok n)) (yaj (yai (ybf.ok n)) (yas))) Tryz.func109 (by kernel_rfl) rfl
def en (n:Nat):Entry:=yaw 109 ia io (fRun (X n) n T Tryz.f109 ia io)
end yaV
namespace ycc
abbrev ia:List Ai:=[.dat yag,.fn (.cp (.bd 109)) [(.p (.d yah) (.p (.d (.int .i64)) (.p (.m 0 (.int .u64) .bool) (.d .unit))))]]
abbrev io:List (Nat×Oi):=[(3,.dat .bool)]
abbrev R:Type:=DOut ia io
def X (n:Nat):Ctx:=⟨⟨tab,[yaV.en n],0,[]⟩,8,bnOf 0 ia⟩
def T:CT := .o
def f (n:Nat)(x_:yad)(t1c0:yao):Option R:=fRun (X n) n T Tryz.f170 ia io (x_,t1c0,())
theorem e0 (n:Nat)(x_:yad)(t1c0:yao):f n x_ t1c0=bnd (yaV.f n t1c0 x_) λu1=>some ((!u1.1),u1.2.1,()):=(yac _).trans (by kernel_rfl)
theorem ok (n:Nat):FnOk Tryz.prog 170 ia io (fRun (X n) n T Tryz.f170 ia io):=yaA mixed tabIs (yaj (yai (yaV.ok n)) (yas)) Tryz.func170 (by kernel_rfl) rfl
def en (n:Nat):Entry:=yaw 170 ia io (fRun (X n) n T Tryz.f170 ia io)
end ycc
namespace yaP
abbrev ia:List Ai:=[.dat (.slice yag),.fn (.fn1 170 (.bd 109)) [(.p (.d yah) (.p (.d (.int .i64)) (.p (.m 0 (.int .u64) .bool) (.d .unit))))]]
abbrev io:List (Nat×Oi):=[(4,.dat (.int .i64))]
abbrev R:Type:=DOut ia io
def X (n:Nat):Ctx:=⟨⟨tab,[ycc.en n],0,[]⟩,19,bnOf 0 ia⟩
abbrev g1:List Si:=[.dat 0 (.slice yag),.clo 1 (.fn1 170 (.bd 109)) [(502000,ycu,false)],.dat 7 (.int .i64),.dat 8 (.int .i64),.box 502000 (.p (.d yah) (.p (.d (.int .i64)) (.p (.m 100000502000000 (.int .u64) .bool) (.d .unit))))]
abbrev g2:List Si:=[.box 502000 (.p (.d yah) (.p (.d (.int .i64)) (.p (.m 100000502000000 (.int .u64) .bool) (.d .unit))))]
def T:CT:=(.s .o (.s (.s .o (.b (.l g1 .o))) (.r g2 .o)))
def J1 (n:Nat)(m:Nat):(List (yad))×Int×Int×yao×Unit→Option R:=jL (X n) n T (yau Tryz.f215) (endK ia io) g1 [1,0,1,0] [] m
def J2 (n:Nat):yao×Unit→Option R:=jR (X n) n T (yau Tryz.f215) (endK ia io) g2 [1,1] []
def f (n:Nat)(s_:List (yad))(fc0:yao):Option R:=fRun (X n) n T Tryz.f215 ia io (s_,fc0,())
theorem e0 (n:Nat)(s_:List (yad))(fc0:yao):f n s_ fc0=J1 n n (s_,((s_.length:Nat):Int),0,fc0,()):=(yac _).trans (by kernel_rfl)
theorem e1 (n m:Nat)(s_:List (yad))(t7:Int)(t8:Int)(b502000:yao):J1 n (m+1) (s_,t7,t8,b502000,())=bIf ((hide (decide (t8<t7)))) (gIf (0≤t8∧t8<((s_.length:Nat):Int)) (bnd (ycc.f n (List.getD s_ t8.toNat (Va.dflt yag)) b502000) λu1=>bIf (u1.1) (some (t8,u1.2.1,())) (J1 n m (s_,t7,(IntKind.i64.wrap (t8+(1:Int))),u1.2.1,())))) (J2 n (b502000,())):=(yac _).trans (by kernel_rfl)
theorem e2 (n:Nat)(b502000:yao):J2 n (b502000,())=some ((-1),b502000,()):=(yac _).trans (by kernel_rfl)
theorem ok (n:Nat):FnOk Tryz.prog 215 ia io (fRun (X n) n T Tryz.f215 ia io):=yaA mixed tabIs (yaj (yai (ycc.ok n)) (yas)) Tryz.func215 (by kernel_rfl) rfl
def en (n:Nat):Entry:=yaw 215 ia io (fRun (X n) n T Tryz.f215 ia io)
end yaP
namespace ybp
abbrev ia:List Ai:=[.dat (.slice yag),.fn (.fn1 170 (.bd 109)) [(.p (.d yah) (.p (.d (.int .i64)) (.p (.m 0 (.int .u64) .bool) (.d .unit))))]]
abbrev io:List (Nat×Oi):=[(4,.dat .bool)]
abbrev R:Type:=DOut ia io
def X (n:Nat):Ctx:=⟨⟨tab,[yaP.en n],0,[]⟩,9,bnOf 0 ia⟩
def T:CT := .o
def f (n:Nat)(s_:List (yad))(fc0:yao):Option R:=fRun (X n) n T Tryz.f169 ia io (s_,fc0,())
theorem e0 (n:Nat)(s_:List (yad))(fc0:yao):f n s_ fc0=bnd (yaP.f n s_ fc0) λu1=>some ((hide (decide (u1.1≥(0:Int)))),u1.2.1,()):=(yac _).trans (by kernel_rfl)
theorem ok (n:Nat):FnOk Tryz.prog 169 ia io (fRun (X n) n T Tryz.f169 ia io):=yaA mixed tabIs (yaj (yai (yaP.ok n)) (yas)) Tryz.func169 (by kernel_rfl) rfl
def en (n:Nat):Entry:=yaw 169 ia io (fRun (X n) n T Tryz.f169 ia io)
end ybp
namespace ybR
abbrev ia:List Ai:=[.dat (.slice yag),.fn (.bd 109) [(.p (.d yah) (.p (.d (.int .i64)) (.p (.m 0 (.int .u64) .bool) (.d .unit))))]]
abbrev io:List (Nat×Oi):=[(4,.dat .bool)]
abbrev R:Type:=DOut ia io
def X (n:Nat):Ctx:=⟨⟨tab,[ybp.en n],0,[6]⟩,9,bnOf 0 ia⟩
def T:CT := .o
def f (n:Nat)(list:List (yad))(goodc0:yao):Option R:=fRun (X n) n T Tryz.f108 ia io (list,goodc0,())
theorem e0 (n:Nat)(list:List (yad))(goodc0:yao):f n list goodc0=bnd (ybp.f n list goodc0) λu1=>some ((!u1.1),u1.2.1,()):=(yac _).trans (by kernel_rfl)
theorem ok (n:Nat):FnOk Tryz.prog 108 ia io (fRun (X n) n T Tryz.f108 ia io):=yaA mixed tabIs (yaj (yai (ybp.ok n)) (yas)) Tryz.func108 (by kernel_rfl) rfl
def en (n:Nat):Entry:=yaw 108 ia io (fRun (X n) n T Tryz.f108 ia io)
end ybR
namespace ycC
abbrev ia:List Ai:=[.dat (.int .i64)]
abbrev io:List (Nat×Oi):=[(2,.dat .bool)]
abbrev R:Type:=DOut ia io
def X (n:Nat):Ctx:=⟨⟨tab,[],0,[]⟩,6,bnOf 0 ia⟩
def T:CT := .o
def f (n:Nat)(x_:Int):Option R:=fRun (X n) n T Tryz.f227 ia io (x_,())
theorem e0 (n:Nat)(x_:Int):f n x_=some ((hide (x_ != x_)),()):=(yac _).trans (by kernel_rfl)
theorem ok (n:Nat):FnOk Tryz.prog 227 ia io (fRun (X n) n T Tryz.f227 ia io):=yaA mixed tabIs (yas) Tryz.func227 (by kernel_rfl) rfl
def en (n:Nat):Entry:=yaw 227 ia io (fRun (X n) n T Tryz.f227 ia io)
end ycC
namespace ycw
abbrev ia:List Ai:=[.dat (.int .i64),.dat (.int .i64)]
abbrev io:List (Nat×Oi):=[(4,.dat (.int .i64))]
abbrev R:Type:=DOut ia io
def X (n:Nat):Ctx:=⟨⟨tab,[ycC.en n],0,[]⟩,20,bnOf 0 ia⟩
def T:CT := .o
def f (n:Nat)(x_:Int)(y_:Int):Option R:=fRun (X n) n T Tryz.f205 ia io (x_,y_,())
theorem e0 (n:Nat)(x_:Int)(y_:Int):f n x_ y_=bnd (ycC.f n x_) λu1=>bnd (ycC.f n y_) λu2=>bIf (u1.1) (bIf (u2.1) (some (0,())) (some ((-1),()))) (bIf (u2.1) (some (1,())) (bIf ((hide (decide (x_<y_)))) (some ((-1),())) (bIf ((hide (decide (x_>y_)))) (some (1,())) (some (0,()))))):=(yac _).trans (by kernel_rfl)
theorem ok (n:Nat):FnOk Tryz.prog 205 ia io (fRun (X n) n T Tryz.f205 ia io):=yaA mixed tabIs (yaj (yai (ycC.ok n)) (yas)) Tryz.func205 (by kernel_rfl) rfl
def en (n:Nat):Entry:=yaw 205 ia io (fRun (X n) n T Tryz.f205 ia io)
end ycw
namespace yc2
abbrev ia:List Ai:=[.dat yaK,.dat yaK]
abbrev io:List (Nat×Oi):=[(4,.dat (.int .i64))]
abbrev R:Type:=DOut ia io
def X (n:Nat):Ctx:=⟨⟨tab,[ycw.en n],0,[]⟩,10,bnOf 0 ia⟩
def T:CT := .o
def f (n:Nat)(a:yaJ)(b:yaJ):Option R:=fRun (X n) n T Tryz.f155 ia io (a,b,())
theorem e0 (n:Nat)(a:yaJ)(b:yaJ):f n a b=bnd (ycw.f n a.1 b.1) λu1=>some (u1.1,()):=(yac _).trans (by kernel_rfl)
theorem ok (n:Nat):FnOk Tryz.prog 155 ia io (fRun (X n) n T Tryz.f155 ia io):=yaA mixed tabIs (yaj (yai (ycw.ok n)) (yas)) Tryz.func155 (by kernel_rfl) rfl
def en (n:Nat):Entry:=yaw 155 ia io (fRun (X n) n T Tryz.f155 ia io)
end yc2
namespace ycj
abbrev ia:List Ai:=[.dat (.slice yaK),.fn (.fn 155) []]
abbrev io:List (Nat×Oi):=[(4,.dat .bool)]
abbrev R:Type:=DOut ia io
def X (n:Nat):Ctx:=⟨⟨tab,[yc2.en n],0,[]⟩,24,bnOf 0 ia⟩
abbrev g1:List Si:=[.dat 0 (.slice yaK),.clo 1 (.fn 155) [],.dat 5 (.int .i64)]
abbrev g2:List Si:=[]
def T:CT:=(.s .o (.s (.s .o (.b (.l g1 .o))) (.r g2 .o)))
def J1 (n:Nat)(m:Nat):(List (yaJ))×Int×Unit→Option R:=jL (X n) n T (yau Tryz.f175) (endK ia io) g1 [1,0,1,0] [] m
def J2 (n:Nat):Unit→Option R:=jR (X n) n T (yau Tryz.f175) (endK ia io) g2 [1,1] []
def f (n:Nat)(list:List (yaJ)):Option R:=fRun (X n) n T Tryz.f175 ia io (list,())
theorem e0 (n:Nat)(list:List (yaJ)):f n list=J1 n n (list,1,()):=(yac _).trans (by kernel_rfl)
theorem e1 (n m:Nat)(list:List (yaJ))(i:Int):J1 n (m+1) (list,i,())=bIf ((hide (decide (i<((list.length:Nat):Int))))) (gIf (0≤(IntKind.i64.wrap (i-(1:Int)))∧(IntKind.i64.wrap (i-(1:Int)))<((list.length:Nat):Int)) (gIf (0≤i∧i<((list.length:Nat):Int)) (bnd (yc2.f n (List.getD list ((IntKind.i64.wrap (i-(1:Int))).toNat) (Va.dflt yaK)) (List.getD list i.toNat (Va.dflt yaK))) λu1=>bIf ((hide (decide (u1.1≥(0:Int))))) (some (false,())) (J1 n m (list,(IntKind.i64.wrap (i+(1:Int))),()))))) (J2 n (())):=(yac _).trans (by kernel_rfl)
theorem e2 (n:Nat):J2 n (())=some (true,()):=(yac _).trans (by kernel_rfl)
theorem ok (n:Nat):FnOk Tryz.prog 175 ia io (fRun (X n) n T Tryz.f175 ia io):=yaA mixed tabIs (yaj (yai (yc2.ok n)) (yas)) Tryz.func175 (by kernel_rfl) rfl
def en (n:Nat):Entry:=yaw 175 ia io (fRun (X n) n T Tryz.f175 ia io)
end ycj
namespace yb4
abbrev ia:List Ai:=[.dat yaK,.fn (.cp (.str 0)) [(.p (.d yah) (.p (.d (.int .i64)) (.p (.m 0 (.int .u64) .bool) (.d .unit))))]]
abbrev io:List (Nat×Oi):=[(3,.dat .bool)]
abbrev R:Type:=DOut ia io
def X (n:Nat):Ctx:=⟨⟨tab,[ydr.en n],0,[]⟩,17,bnOf 0 ia⟩
def T:CT := .o
def f (n:Nat)(p:yaJ)(t1c0:yao):Option R:=fRun (X n) n T Tryz.f177 ia io (p,t1c0,())
theorem e0 (n:Nat)(p:yaJ)(t1c0:yao):f n p t1c0=bnd (ydr.f n p) λu1=>bIf ((!u1.1)) (some (true,t1c0,())) (some ((hide (decide (p.2.2.1≥t1c0.1.2.2.1))),t1c0,())):=(yac _).trans (by kernel_rfl)
theorem ok (n:Nat):FnOk Tryz.prog 177 ia io (fRun (X n) n T Tryz.f177 ia io):=yaA mixed tabIs (yaj (yai (ydr.ok n)) (yas)) Tryz.func177 (by kernel_rfl) rfl
def en (n:Nat):Entry:=yaw 177 ia io (fRun (X n) n T Tryz.f177 ia io)
end yb4
namespace ya5
abbrev ia:List Ai:=[.dat (.slice yaK),.fn (.fn1 177 (.str 0)) [(.p (.d yah) (.p (.d (.int .i64)) (.p (.m 0 (.int .u64) .bool) (.d .unit))))]]
abbrev io:List (Nat×Oi):=[(4,.dat (.int .i64))]
abbrev R:Type:=DOut ia io
def X (n:Nat):Ctx:=⟨⟨tab,[yb4.en n],0,[]⟩,19,bnOf 0 ia⟩
abbrev g1:List Si:=[.dat 0 (.slice yaK),.clo 1 (.fn1 177 (.str 0)) [(502000,ycu,false)],.dat 7 (.int .i64),.dat 8 (.int .i64),.box 502000 (.p (.d yah) (.p (.d (.int .i64)) (.p (.m 100000502000000 (.int .u64) .bool) (.d .unit))))]
abbrev g2:List Si:=[.box 502000 (.p (.d yah) (.p (.d (.int .i64)) (.p (.m 100000502000000 (.int .u64) .bool) (.d .unit))))]
def T:CT:=(.s .o (.s (.s .o (.b (.l g1 .o))) (.r g2 .o)))
def J1 (n:Nat)(m:Nat):(List (yaJ))×Int×Int×yao×Unit→Option R:=jL (X n) n T (yau Tryz.f218) (endK ia io) g1 [1,0,1,0] [] m
def J2 (n:Nat):yao×Unit→Option R:=jR (X n) n T (yau Tryz.f218) (endK ia io) g2 [1,1] []
def f (n:Nat)(s_:List (yaJ))(fc0:yao):Option R:=fRun (X n) n T Tryz.f218 ia io (s_,fc0,())
theorem e0 (n:Nat)(s_:List (yaJ))(fc0:yao):f n s_ fc0=J1 n n (s_,((s_.length:Nat):Int),0,fc0,()):=(yac _).trans (by kernel_rfl)
theorem e1 (n m:Nat)(s_:List (yaJ))(t7:Int)(t8:Int)(b502000:yao):J1 n (m+1) (s_,t7,t8,b502000,())=bIf ((hide (decide (t8<t7)))) (gIf (0≤t8∧t8<((s_.length:Nat):Int)) (bnd (yb4.f n (List.getD s_ t8.toNat (Va.dflt yaK)) b502000) λu1=>bIf (u1.1) (some (t8,u1.2.1,())) (J1 n m (s_,t7,(IntKind.i64.wrap (t8+(1:Int))),u1.2.1,())))) (J2 n (b502000,())):=(yac _).trans (by kernel_rfl)
theorem e2 (n:Nat)(b502000:yao):J2 n (b502000,())=some ((-1),b502000,()):=(yac _).trans (by kernel_rfl)
theorem ok (n:Nat):FnOk Tryz.prog 218 ia io (fRun (X n) n T Tryz.f218 ia io):=yaA mixed tabIs (yaj (yai (yb4.ok n)) (yas)) Tryz.func218 (by kernel_rfl) rfl
def en (n:Nat):Entry:=yaw 218 ia io (fRun (X n) n T Tryz.f218 ia io)
end ya5
namespace ybj
abbrev ia:List Ai:=[.dat (.slice yaK),.fn (.fn1 177 (.str 0)) [(.p (.d yah) (.p (.d (.int .i64)) (.p (.m 0 (.int .u64) .bool) (.d .unit))))]]
abbrev io:List (Nat×Oi):=[(4,.dat .bool)]
abbrev R:Type:=DOut ia io
def X (n:Nat):Ctx:=⟨⟨tab,[ya5.en n],0,[]⟩,9,bnOf 0 ia⟩
def T:CT := .o
def f (n:Nat)(s_:List (yaJ))(fc0:yao):Option R:=fRun (X n) n T Tryz.f176 ia io (s_,fc0,())
theorem e0 (n:Nat)(s_:List (yaJ))(fc0:yao):f n s_ fc0=bnd (ya5.f n s_ fc0) λu1=>some ((hide (decide (u1.1≥(0:Int)))),u1.2.1,()):=(yac _).trans (by kernel_rfl)
theorem ok (n:Nat):FnOk Tryz.prog 176 ia io (fRun (X n) n T Tryz.f176 ia io):=yaA mixed tabIs (yaj (yai (ya5.ok n)) (yas)) Tryz.func176 (by kernel_rfl) rfl
def en (n:Nat):Entry:=yaw 176 ia io (fRun (X n) n T Tryz.f176 ia io)
end ybj
namespace yaZ
abbrev ia:List Ai:=[.ptr (.p (.d yah) (.p (.d (.int .i64)) (.p (.m 0 (.int .u64) .bool) (.d .unit)))),.dat yal]
abbrev io:List (Nat×Oi):=[(4,.dat .bool)]
abbrev R:Type:=DOut ia io
def X (n:Nat):Ctx:=⟨⟨tab,[ycO.en n,ybf.en n,ybz.en n,ycj.en n,ybj.en n],0,[36]⟩,39,bnOf 0 ia⟩
abbrev g1:List Si:=[.ref 2 2 (.opq 0),.ref 3 3 yal,.box 2 (.al 500000 ycu),.box 3 (.d yal),.box 500000 (.p (.d yah) (.p (.d (.int .i64)) (.p (.m 100000500000000 (.int .u64) .bool) (.d .unit))))]
def T:CT:=(.s .o (.s .o (.r g1 .o)))
def J1 (n:Nat):Unit×yan×yao×Unit→Option R:=jR (X n) n T (yau Tryz.f111) (endK ia io) g1 [1,1] []
def f (n:Nat)(c:yao)(u:yan):Option R:=fRun (X n) n T Tryz.f111 ia io (c,u,())
theorem e0 (n:Nat)(c:yao)(u:yan):f n c u=bnd (ybf.f n c u.1) λu1=>bIf ((!u1.1)) (some (false,u1.2.1,())) (bnd (ycO.f n u.2.1) λu2=>bIf ((!u2.1)) (some (false,u1.2.1,())) (bnd (ybz.f n u.2.2.1) λu3=>bIf ((!u3.1)) (some (false,u1.2.1,())) (bIf ((hide (decide (((u.2.2.2.1.length:Nat):Int)>(16:Int))))) (some (false,u1.2.1,())) (bnd (ycj.f n u.2.2.2.1) λu4=>bIf ((!u4.1)) (some (false,u1.2.1,())) (J1 n ((),u,u1.2.1,())))))):=(yac _).trans (by kernel_rfl)
theorem e1 (n:Nat)(c:Unit)(u:yan)(b500000:yao):J1 n (c,u,b500000,())=bnd (ybj.f n u.2.2.2.1 b500000) λu1=>some ((!u1.1),u1.2.1,()):=(yac _).trans (by kernel_rfl)
theorem ok (n:Nat):FnOk Tryz.prog 111 ia io (fRun (X n) n T Tryz.f111 ia io):=yaA mixed tabIs (yaj (yai (ycO.ok n)) (yaj (yai (ybf.ok n)) (yaj (yai (ybz.ok n)) (yaj (yai (ycj.ok n)) (yaj (yai (ybj.ok n)) (yas)))))) Tryz.func111 (by kernel_rfl) rfl
def en (n:Nat):Entry:=yaw 111 ia io (fRun (X n) n T Tryz.f111 ia io)
end yaZ
namespace ycb
abbrev ia:List Ai:=[.dat yal,.fn (.cp (.bd 111)) [(.p (.d yah) (.p (.d (.int .i64)) (.p (.m 0 (.int .u64) .bool) (.d .unit))))]]
abbrev io:List (Nat×Oi):=[(3,.dat .bool)]
abbrev R:Type:=DOut ia io
def X (n:Nat):Ctx:=⟨⟨tab,[yaZ.en n],0,[]⟩,8,bnOf 0 ia⟩
def T:CT := .o
def f (n:Nat)(x_:yan)(t1c0:yao):Option R:=fRun (X n) n T Tryz.f173 ia io (x_,t1c0,())
theorem e0 (n:Nat)(x_:yan)(t1c0:yao):f n x_ t1c0=bnd (yaZ.f n t1c0 x_) λu1=>some ((!u1.1),u1.2.1,()):=(yac _).trans (by kernel_rfl)
theorem ok (n:Nat):FnOk Tryz.prog 173 ia io (fRun (X n) n T Tryz.f173 ia io):=yaA mixed tabIs (yaj (yai (yaZ.ok n)) (yas)) Tryz.func173 (by kernel_rfl) rfl
def en (n:Nat):Entry:=yaw 173 ia io (fRun (X n) n T Tryz.f173 ia io)
end ycb
namespace yaQ
abbrev ia:List Ai:=[.dat (.slice yal),.fn (.fn1 173 (.bd 111)) [(.p (.d yah) (.p (.d (.int .i64)) (.p (.m 0 (.int .u64) .bool) (.d .unit))))]]
abbrev io:List (Nat×Oi):=[(4,.dat (.int .i64))]
abbrev R:Type:=DOut ia io
def X (n:Nat):Ctx:=⟨⟨tab,[ycb.en n],0,[]⟩,19,bnOf 0 ia⟩
abbrev g1:List Si:=[.dat 0 (.slice yal),.clo 1 (.fn1 173 (.bd 111)) [(502000,ycu,false)],.dat 7 (.int .i64),.dat 8 (.int .i64),.box 502000 (.p (.d yah) (.p (.d (.int .i64)) (.p (.m 100000502000000 (.int .u64) .bool) (.d .unit))))]
abbrev g2:List Si:=[.box 502000 (.p (.d yah) (.p (.d (.int .i64)) (.p (.m 100000502000000 (.int .u64) .bool) (.d .unit))))]
def T:CT:=(.s .o (.s (.s .o (.b (.l g1 .o))) (.r g2 .o)))
def J1 (n:Nat)(m:Nat):(List (yan))×Int×Int×yao×Unit→Option R:=jL (X n) n T (yau Tryz.f216) (endK ia io) g1 [1,0,1,0] [] m
def J2 (n:Nat):yao×Unit→Option R:=jR (X n) n T (yau Tryz.f216) (endK ia io) g2 [1,1] []
def f (n:Nat)(s_:List (yan))(fc0:yao):Option R:=fRun (X n) n T Tryz.f216 ia io (s_,fc0,())
theorem e0 (n:Nat)(s_:List (yan))(fc0:yao):f n s_ fc0=J1 n n (s_,((s_.length:Nat):Int),0,fc0,()):=(yac _).trans (by kernel_rfl)
theorem e1 (n m:Nat)(s_:List (yan))(t7:Int)(t8:Int)(b502000:yao):J1 n (m+1) (s_,t7,t8,b502000,())=bIf ((hide (decide (t8<t7)))) (gIf (0≤t8∧t8<((s_.length:Nat):Int)) (bnd (ycb.f n (List.getD s_ t8.toNat (Va.dflt yal)) b502000) λu1=>bIf (u1.1) (some (t8,u1.2.1,())) (J1 n m (s_,t7,(IntKind.i64.wrap (t8+(1:Int))),u1.2.1,())))) (J2 n (b502000,())):=(yac _).trans (by kernel_rfl)
theorem e2 (n:Nat)(b502000:yao):J2 n (b502000,())=some ((-1),b502000,()):=(yac _).trans (by kernel_rfl)
theorem ok (n:Nat):FnOk Tryz.prog 216 ia io (fRun (X n) n T Tryz.f216 ia io):=yaA mixed tabIs (yaj (yai (ycb.ok n)) (yas)) Tryz.func216 (by kernel_rfl) rfl
def en (n:Nat):Entry:=yaw 216 ia io (fRun (X n) n T Tryz.f216 ia io)
end yaQ
namespace ybm
abbrev ia:List Ai:=[.dat (.slice yal),.fn (.fn1 173 (.bd 111)) [(.p (.d yah) (.p (.d (.int .i64)) (.p (.m 0 (.int .u64) .bool) (.d .unit))))]]
abbrev io:List (Nat×Oi):=[(4,.dat .bool)]
abbrev R:Type:=DOut ia io
def X (n:Nat):Ctx:=⟨⟨tab,[yaQ.en n],0,[]⟩,9,bnOf 0 ia⟩
def T:CT := .o
def f (n:Nat)(s_:List (yan))(fc0:yao):Option R:=fRun (X n) n T Tryz.f172 ia io (s_,fc0,())
theorem e0 (n:Nat)(s_:List (yan))(fc0:yao):f n s_ fc0=bnd (yaQ.f n s_ fc0) λu1=>some ((hide (decide (u1.1≥(0:Int)))),u1.2.1,()):=(yac _).trans (by kernel_rfl)
theorem ok (n:Nat):FnOk Tryz.prog 172 ia io (fRun (X n) n T Tryz.f172 ia io):=yaA mixed tabIs (yaj (yai (yaQ.ok n)) (yas)) Tryz.func172 (by kernel_rfl) rfl
def en (n:Nat):Entry:=yaw 172 ia io (fRun (X n) n T Tryz.f172 ia io)
end ybm
namespace ybS
abbrev ia:List Ai:=[.dat (.slice yal),.fn (.bd 111) [(.p (.d yah) (.p (.d (.int .i64)) (.p (.m 0 (.int .u64) .bool) (.d .unit))))]]
abbrev io:List (Nat×Oi):=[(4,.dat .bool)]
abbrev R:Type:=DOut ia io
def X (n:Nat):Ctx:=⟨⟨tab,[ybm.en n],0,[6]⟩,9,bnOf 0 ia⟩
def T:CT := .o
def f (n:Nat)(list:List (yan))(goodc0:yao):Option R:=fRun (X n) n T Tryz.f110 ia io (list,goodc0,())
theorem e0 (n:Nat)(list:List (yan))(goodc0:yao):f n list goodc0=bnd (ybm.f n list goodc0) λu1=>some ((!u1.1),u1.2.1,()):=(yac _).trans (by kernel_rfl)
theorem ok (n:Nat):FnOk Tryz.prog 110 ia io (fRun (X n) n T Tryz.f110 ia io):=yaA mixed tabIs (yaj (yai (ybm.ok n)) (yas)) Tryz.func110 (by kernel_rfl) rfl
def en (n:Nat):Entry:=yaw 110 ia io (fRun (X n) n T Tryz.f110 ia io)
end ybS
namespace yb9
abbrev ia:List Ai:=[.dat .str]
abbrev io:List (Nat×Oi):=[(2,.dat .bool)]
abbrev R:Type:=DOut ia io
def X (n:Nat):Ctx:=⟨⟨tab,[],0,[]⟩,6,bnOf 0 ia⟩
def T:CT := .o
def f (n:Nat)(x_:ByteArray):Option R:=fRun (X n) n T Tryz.f112 ia io (x_,())
theorem e0 (n:Nat)(x_:ByteArray):f n x_=some ((hide (!eqS x_ x_)),()):=(yac _).trans (by kernel_rfl)
theorem ok (n:Nat):FnOk Tryz.prog 112 ia io (fRun (X n) n T Tryz.f112 ia io):=yaA mixed tabIs (yas) Tryz.func112 (by kernel_rfl) rfl
def en (n:Nat):Entry:=yaw 112 ia io (fRun (X n) n T Tryz.f112 ia io)
end yb9
namespace ya0
abbrev ia:List Ai:=[.dat .str,.dat .str]
abbrev io:List (Nat×Oi):=[(4,.dat (.int .i64))]
abbrev R:Type:=DOut ia io
def X (n:Nat):Ctx:=⟨⟨tab,[yb9.en n],0,[]⟩,20,bnOf 0 ia⟩
def T:CT := .o
def f (n:Nat)(x_:ByteArray)(y_:ByteArray):Option R:=fRun (X n) n T Tryz.f69 ia io (x_,y_,())
theorem e0 (n:Nat)(x_:ByteArray)(y_:ByteArray):f n x_ y_=bnd (yb9.f n x_) λu1=>bnd (yb9.f n y_) λu2=>bIf (u1.1) (bIf (u2.1) (some (0,())) (some ((-1),()))) (bIf (u2.1) (some (1,())) (bIf ((hide (ltS x_ y_))) (some ((-1),())) (bIf ((hide (!(ltS x_ y_||eqS x_ y_)))) (some (1,())) (some (0,()))))):=(yac _).trans (by kernel_rfl)
theorem ok (n:Nat):FnOk Tryz.prog 69 ia io (fRun (X n) n T Tryz.f69 ia io):=yaA mixed tabIs (yaj (yai (yb9.ok n)) (yas)) Tryz.func69 (by kernel_rfl) rfl
def en (n:Nat):Entry:=yaw 69 ia io (fRun (X n) n T Tryz.f69 ia io)
end ya0
namespace ybX
abbrev ia:List Ai:=[.dat yag,.dat yag]
abbrev io:List (Nat×Oi):=[(4,.dat (.int .i64))]
abbrev R:Type:=DOut ia io
def X (n:Nat):Ctx:=⟨⟨tab,[ya0.en n],0,[]⟩,10,bnOf 0 ia⟩
def T:CT := .o
def f (n:Nat)(a:yad)(b:yad):Option R:=fRun (X n) n T Tryz.f36 ia io (a,b,())
theorem e0 (n:Nat)(a:yad)(b:yad):f n a b=bnd (ya0.f n a.1 b.1) λu1=>some (u1.1,()):=(yac _).trans (by kernel_rfl)
theorem ok (n:Nat):FnOk Tryz.prog 36 ia io (fRun (X n) n T Tryz.f36 ia io):=yaA mixed tabIs (yaj (yai (ya0.ok n)) (yas)) Tryz.func36 (by kernel_rfl) rfl
def en (n:Nat):Entry:=yaw 36 ia io (fRun (X n) n T Tryz.f36 ia io)
end ybX
namespace ybH
abbrev ia:List Ai:=[.dat (.slice yag),.fn (.fn 36) []]
abbrev io:List (Nat×Oi):=[(4,.dat .bool)]
abbrev R:Type:=DOut ia io
def X (n:Nat):Ctx:=⟨⟨tab,[ybX.en n],0,[]⟩,24,bnOf 0 ia⟩
abbrev g1:List Si:=[.dat 0 (.slice yag),.clo 1 (.fn 36) [],.dat 5 (.int .i64)]
abbrev g2:List Si:=[]
def T:CT:=(.s .o (.s (.s .o (.b (.l g1 .o))) (.r g2 .o)))
def J1 (n:Nat)(m:Nat):(List (yad))×Int×Unit→Option R:=jL (X n) n T (yau Tryz.f105) (endK ia io) g1 [1,0,1,0] [] m
def J2 (n:Nat):Unit→Option R:=jR (X n) n T (yau Tryz.f105) (endK ia io) g2 [1,1] []
def f (n:Nat)(list:List (yad)):Option R:=fRun (X n) n T Tryz.f105 ia io (list,())
theorem e0 (n:Nat)(list:List (yad)):f n list=J1 n n (list,1,()):=(yac _).trans (by kernel_rfl)
theorem e1 (n m:Nat)(list:List (yad))(i:Int):J1 n (m+1) (list,i,())=bIf ((hide (decide (i<((list.length:Nat):Int))))) (gIf (0≤(IntKind.i64.wrap (i-(1:Int)))∧(IntKind.i64.wrap (i-(1:Int)))<((list.length:Nat):Int)) (gIf (0≤i∧i<((list.length:Nat):Int)) (bnd (ybX.f n (List.getD list ((IntKind.i64.wrap (i-(1:Int))).toNat) (Va.dflt yag)) (List.getD list i.toNat (Va.dflt yag))) λu1=>bIf ((hide (decide (u1.1≥(0:Int))))) (some (false,())) (J1 n m (list,(IntKind.i64.wrap (i+(1:Int))),()))))) (J2 n (())):=(yac _).trans (by kernel_rfl)
theorem e2 (n:Nat):J2 n (())=some (true,()):=(yac _).trans (by kernel_rfl)
theorem ok (n:Nat):FnOk Tryz.prog 105 ia io (fRun (X n) n T Tryz.f105 ia io):=yaA mixed tabIs (yaj (yai (ybX.ok n)) (yas)) Tryz.func105 (by kernel_rfl) rfl
def en (n:Nat):Entry:=yaw 105 ia io (fRun (X n) n T Tryz.f105 ia io)
end ybH
namespace yb7
abbrev ia:List Ai:=[.dat (.int .u64)]
abbrev io:List (Nat×Oi):=[(2,.dat .bool)]
abbrev R:Type:=DOut ia io
def X (n:Nat):Ctx:=⟨⟨tab,[],0,[]⟩,6,bnOf 0 ia⟩
def T:CT := .o
def f (n:Nat)(x_:Int):Option R:=fRun (X n) n T Tryz.f91 ia io (x_,())
theorem e0 (n:Nat)(x_:Int):f n x_=some ((hide (x_ != x_)),()):=(yac _).trans (by kernel_rfl)
theorem ok (n:Nat):FnOk Tryz.prog 91 ia io (fRun (X n) n T Tryz.f91 ia io):=yaA mixed tabIs (yas) Tryz.func91 (by kernel_rfl) rfl
def en (n:Nat):Entry:=yaw 91 ia io (fRun (X n) n T Tryz.f91 ia io)
end yb7
namespace yb0
abbrev ia:List Ai:=[.dat (.int .u64),.dat (.int .u64)]
abbrev io:List (Nat×Oi):=[(4,.dat (.int .i64))]
abbrev R:Type:=DOut ia io
def X (n:Nat):Ctx:=⟨⟨tab,[yb7.en n],0,[]⟩,20,bnOf 0 ia⟩
def T:CT := .o
def f (n:Nat)(x_:Int)(y_:Int):Option R:=fRun (X n) n T Tryz.f56 ia io (x_,y_,())
theorem e0 (n:Nat)(x_:Int)(y_:Int):f n x_ y_=bnd (yb7.f n x_) λu1=>bnd (yb7.f n y_) λu2=>bIf (u1.1) (bIf (u2.1) (some (0,())) (some ((-1),()))) (bIf (u2.1) (some (1,())) (bIf ((hide (decide (x_<y_)))) (some ((-1),())) (bIf ((hide (decide (x_>y_)))) (some (1,())) (some (0,()))))):=(yac _).trans (by kernel_rfl)
theorem ok (n:Nat):FnOk Tryz.prog 56 ia io (fRun (X n) n T Tryz.f56 ia io):=yaA mixed tabIs (yaj (yai (yb7.ok n)) (yas)) Tryz.func56 (by kernel_rfl) rfl
def en (n:Nat):Entry:=yaw 56 ia io (fRun (X n) n T Tryz.f56 ia io)
end yb0
namespace ydU
abbrev ia:List Ai:=[.dat yal,.dat yal]
abbrev io:List (Nat×Oi):=[(4,.dat (.int .i64))]
abbrev R:Type:=DOut ia io
def X (n:Nat):Ctx:=⟨⟨tab,[yb0.en n],0,[]⟩,10,bnOf 0 ia⟩
def T:CT := .o
def f (n:Nat)(a:yan)(b:yan):Option R:=fRun (X n) n T Tryz.f107 ia io (a,b,())
theorem e0 (n:Nat)(a:yan)(b:yan):f n a b=bnd (yb0.f n a.1 b.1) λu1=>some (u1.1,()):=(yac _).trans (by kernel_rfl)
theorem ok (n:Nat):FnOk Tryz.prog 107 ia io (fRun (X n) n T Tryz.f107 ia io):=yaA mixed tabIs (yaj (yai (yb0.ok n)) (yas)) Tryz.func107 (by kernel_rfl) rfl
def en (n:Nat):Entry:=yaw 107 ia io (fRun (X n) n T Tryz.f107 ia io)
end ydU
namespace ybF
abbrev ia:List Ai:=[.dat (.slice yal),.fn (.fn 107) []]
abbrev io:List (Nat×Oi):=[(4,.dat .bool)]
abbrev R:Type:=DOut ia io
def X (n:Nat):Ctx:=⟨⟨tab,[ydU.en n],0,[]⟩,24,bnOf 0 ia⟩
abbrev g1:List Si:=[.dat 0 (.slice yal),.clo 1 (.fn 107) [],.dat 5 (.int .i64)]
abbrev g2:List Si:=[]
def T:CT:=(.s .o (.s (.s .o (.b (.l g1 .o))) (.r g2 .o)))
def J1 (n:Nat)(m:Nat):(List (yan))×Int×Unit→Option R:=jL (X n) n T (yau Tryz.f106) (endK ia io) g1 [1,0,1,0] [] m
def J2 (n:Nat):Unit→Option R:=jR (X n) n T (yau Tryz.f106) (endK ia io) g2 [1,1] []
def f (n:Nat)(list:List (yan)):Option R:=fRun (X n) n T Tryz.f106 ia io (list,())
theorem e0 (n:Nat)(list:List (yan)):f n list=J1 n n (list,1,()):=(yac _).trans (by kernel_rfl)
theorem e1 (n m:Nat)(list:List (yan))(i:Int):J1 n (m+1) (list,i,())=bIf ((hide (decide (i<((list.length:Nat):Int))))) (gIf (0≤(IntKind.i64.wrap (i-(1:Int)))∧(IntKind.i64.wrap (i-(1:Int)))<((list.length:Nat):Int)) (gIf (0≤i∧i<((list.length:Nat):Int)) (bnd (ydU.f n (List.getD list ((IntKind.i64.wrap (i-(1:Int))).toNat) (Va.dflt yal)) (List.getD list i.toNat (Va.dflt yal))) λu1=>bIf ((hide (decide (u1.1≥(0:Int))))) (some (false,())) (J1 n m (list,(IntKind.i64.wrap (i+(1:Int))),()))))) (J2 n (())):=(yac _).trans (by kernel_rfl)
theorem e2 (n:Nat):J2 n (())=some (true,()):=(yac _).trans (by kernel_rfl)
theorem ok (n:Nat):FnOk Tryz.prog 106 ia io (fRun (X n) n T Tryz.f106 ia io):=yaA mixed tabIs (yaj (yai (ydU.ok n)) (yas)) Tryz.func106 (by kernel_rfl) rfl
def en (n:Nat):Entry:=yaw 106 ia io (fRun (X n) n T Tryz.f106 ia io)
end ybF
namespace yaT
abbrev ia:List Ai:=[.ptr (.p (.d yah) (.p (.d (.int .i64)) (.p (.m 0 (.int .u64) .bool) (.d .unit)))),.dat yaa]
abbrev io:List (Nat×Oi):=[(4,.dat .bool)]
abbrev R:Type:=DOut ia io
def X (n:Nat):Ctx:=⟨⟨tab,[ybN.en n,ydu.en n,ydc.en n,ycX.en n,ybH.en n,ybF.en n,ybR.en n,ybS.en n],0,[]⟩,55,bnOf 0 ia⟩
abbrev g1:List Si:=[.ref 0 500000 ycu,.ref 3 3 yaa,.box 3 (.d yaa),.box 500000 (.p (.d yah) (.p (.d (.int .i64)) (.p (.m 100000500000000 (.int .u64) .bool) (.d .unit))))]
abbrev g2:List Si:=[.ref 0 500000 ycu,.ref 3 3 yaa,.box 3 (.d yaa),.box 500000 (.p (.d yah) (.p (.d (.int .i64)) (.p (.m 100000500000000 (.int .u64) .bool) (.d .unit))))]
def T:CT:=(.s .o (.s .o (.r g1 (.s .o (.r g2 .o)))))
def J1 (n:Nat):yab×yao×Unit→Option R:=jR (X n) n T (yau Tryz.f67) (endK ia io) g1 [1,1] []
def J2 (n:Nat):yab×yao×Unit→Option R:=jR (X n) n T (yau Tryz.f67) (endK ia io) g2 [1,1,1] []
def f (n:Nat)(c:yao)(b:yab):Option R:=fRun (X n) n T Tryz.f67 ia io (c,b,())
theorem e0 (n:Nat)(c:yao)(b:yab):f n c b=bnd (ybN.f n b.1) λu1=>bIf ((!u1.1)) (some (false,c,())) (bnd (ydu.f n b.2.1) λu2=>bIf ((!u2.1)) (some (false,c,())) (bnd (ydc.f n b.2.2.1) λu3=>bIf ((!u3.1)) (some (false,c,())) (bnd (ycX.f n b.2.2.2.1) λu4=>bIf ((!u4.1)) (some (false,c,())) (J1 n (b,c,()))))):=(yac _).trans (by kernel_rfl)
theorem e1 (n:Nat)(b:yab)(c:yao):J1 n (b,c,())=bIf ((hide (decide (((b.2.2.2.2.2.1.length:Nat):Int)>(4:Int))))) (some (false,c,())) (bnd (ybH.f n b.2.2.2.2.1) λu1=>bIf ((!u1.1)) (some (false,c,())) (bnd (ybF.f n b.2.2.2.2.2.1) λu2=>bIf ((!u2.1)) (some (false,c,())) (J2 n (b,c,())))):=(yac _).trans (by kernel_rfl)
theorem e2 (n:Nat)(b:yab)(c:yao):J2 n (b,c,())=bnd (ybR.f n b.2.2.2.2.1 c) λu1=>bIf (u1.1) (bnd (ybS.f n b.2.2.2.2.2.1 u1.2.1) λu2=>some (u2.1,u2.2.1,())) (some (false,u1.2.1,())):=(yac _).trans (by kernel_rfl)
theorem ok (n:Nat):FnOk Tryz.prog 67 ia io (fRun (X n) n T Tryz.f67 ia io):=yaA mixed tabIs (yaj (yai (ybN.ok n)) (yaj (yai (ydu.ok n)) (yaj (yai (ydc.ok n)) (yaj (yai (ycX.ok n)) (yaj (yai (ybH.ok n)) (yaj (yai (ybF.ok n)) (yaj (yai (ybR.ok n)) (yaj (yai (ybS.ok n)) (yas))))))))) Tryz.func67 (by kernel_rfl) rfl
def en (n:Nat):Entry:=yaw 67 ia io (fRun (X n) n T Tryz.f67 ia io)
end yaT
namespace ych
abbrev ia:List Ai:=[.dat yaa,.fn (.cp (.bd 67)) [(.p (.d yah) (.p (.d (.int .i64)) (.p (.m 0 (.int .u64) .bool) (.d .unit))))]]
abbrev io:List (Nat×Oi):=[(3,.dat .bool)]
abbrev R:Type:=DOut ia io
def X (n:Nat):Ctx:=⟨⟨tab,[yaT.en n],0,[]⟩,8,bnOf 0 ia⟩
def T:CT := .o
def f (n:Nat)(x_:yab)(t1c0:yao):Option R:=fRun (X n) n T Tryz.f100 ia io (x_,t1c0,())
theorem e0 (n:Nat)(x_:yab)(t1c0:yao):f n x_ t1c0=bnd (yaT.f n t1c0 x_) λu1=>some ((!u1.1),u1.2.1,()):=(yac _).trans (by kernel_rfl)
theorem ok (n:Nat):FnOk Tryz.prog 100 ia io (fRun (X n) n T Tryz.f100 ia io):=yaA mixed tabIs (yaj (yai (yaT.ok n)) (yas)) Tryz.func100 (by kernel_rfl) rfl
def en (n:Nat):Entry:=yaw 100 ia io (fRun (X n) n T Tryz.f100 ia io)
end ych
namespace yaO
abbrev ia:List Ai:=[.dat (.slice yaa),.fn (.fn1 100 (.bd 67)) [(.p (.d yah) (.p (.d (.int .i64)) (.p (.m 0 (.int .u64) .bool) (.d .unit))))]]
abbrev io:List (Nat×Oi):=[(4,.dat (.int .i64))]
abbrev R:Type:=DOut ia io
def X (n:Nat):Ctx:=⟨⟨tab,[ych.en n],0,[]⟩,19,bnOf 0 ia⟩
abbrev g1:List Si:=[.dat 0 (.slice yaa),.clo 1 (.fn1 100 (.bd 67)) [(502000,ycu,false)],.dat 7 (.int .i64),.dat 8 (.int .i64),.box 502000 (.p (.d yah) (.p (.d (.int .i64)) (.p (.m 100000502000000 (.int .u64) .bool) (.d .unit))))]
abbrev g2:List Si:=[.box 502000 (.p (.d yah) (.p (.d (.int .i64)) (.p (.m 100000502000000 (.int .u64) .bool) (.d .unit))))]
def T:CT:=(.s .o (.s (.s .o (.b (.l g1 .o))) (.r g2 .o)))
def J1 (n:Nat)(m:Nat):(List (yab))×Int×Int×yao×Unit→Option R:=jL (X n) n T (yau Tryz.f160) (endK ia io) g1 [1,0,1,0] [] m
def J2 (n:Nat):yao×Unit→Option R:=jR (X n) n T (yau Tryz.f160) (endK ia io) g2 [1,1] []
def f (n:Nat)(s_:List (yab))(fc0:yao):Option R:=fRun (X n) n T Tryz.f160 ia io (s_,fc0,())
theorem e0 (n:Nat)(s_:List (yab))(fc0:yao):f n s_ fc0=J1 n n (s_,((s_.length:Nat):Int),0,fc0,()):=(yac _).trans (by kernel_rfl)
theorem e1 (n m:Nat)(s_:List (yab))(t7:Int)(t8:Int)(b502000:yao):J1 n (m+1) (s_,t7,t8,b502000,())=bIf ((hide (decide (t8<t7)))) (gIf (0≤t8∧t8<((s_.length:Nat):Int)) (bnd (ych.f n (List.getD s_ t8.toNat (Va.dflt yaa)) b502000) λu1=>bIf (u1.1) (some (t8,u1.2.1,())) (J1 n m (s_,t7,(IntKind.i64.wrap (t8+(1:Int))),u1.2.1,())))) (J2 n (b502000,())):=(yac _).trans (by kernel_rfl)
theorem e2 (n:Nat)(b502000:yao):J2 n (b502000,())=some ((-1),b502000,()):=(yac _).trans (by kernel_rfl)
theorem ok (n:Nat):FnOk Tryz.prog 160 ia io (fRun (X n) n T Tryz.f160 ia io):=yaA mixed tabIs (yaj (yai (ych.ok n)) (yas)) Tryz.func160 (by kernel_rfl) rfl
def en (n:Nat):Entry:=yaw 160 ia io (fRun (X n) n T Tryz.f160 ia io)
end yaO
namespace ybq
abbrev ia:List Ai:=[.dat (.slice yaa),.fn (.fn1 100 (.bd 67)) [(.p (.d yah) (.p (.d (.int .i64)) (.p (.m 0 (.int .u64) .bool) (.d .unit))))]]
abbrev io:List (Nat×Oi):=[(4,.dat .bool)]
abbrev R:Type:=DOut ia io
def X (n:Nat):Ctx:=⟨⟨tab,[yaO.en n],0,[]⟩,9,bnOf 0 ia⟩
def T:CT := .o
def f (n:Nat)(s_:List (yab))(fc0:yao):Option R:=fRun (X n) n T Tryz.f99 ia io (s_,fc0,())
theorem e0 (n:Nat)(s_:List (yab))(fc0:yao):f n s_ fc0=bnd (yaO.f n s_ fc0) λu1=>some ((hide (decide (u1.1≥(0:Int)))),u1.2.1,()):=(yac _).trans (by kernel_rfl)
theorem ok (n:Nat):FnOk Tryz.prog 99 ia io (fRun (X n) n T Tryz.f99 ia io):=yaA mixed tabIs (yaj (yai (yaO.ok n)) (yas)) Tryz.func99 (by kernel_rfl) rfl
def en (n:Nat):Entry:=yaw 99 ia io (fRun (X n) n T Tryz.f99 ia io)
end ybq
namespace ycf
abbrev ia:List Ai:=[.dat (.slice yaa),.fn (.bd 67) [(.p (.d yah) (.p (.d (.int .i64)) (.p (.m 0 (.int .u64) .bool) (.d .unit))))]]
abbrev io:List (Nat×Oi):=[(4,.dat .bool)]
abbrev R:Type:=DOut ia io
def X (n:Nat):Ctx:=⟨⟨tab,[ybq.en n],0,[6]⟩,9,bnOf 0 ia⟩
def T:CT := .o
def f (n:Nat)(list:List (yab))(goodc0:yao):Option R:=fRun (X n) n T Tryz.f66 ia io (list,goodc0,())
theorem e0 (n:Nat)(list:List (yab))(goodc0:yao):f n list goodc0=bnd (ybq.f n list goodc0) λu1=>some ((!u1.1),u1.2.1,()):=(yac _).trans (by kernel_rfl)
theorem ok (n:Nat):FnOk Tryz.prog 66 ia io (fRun (X n) n T Tryz.f66 ia io):=yaA mixed tabIs (yaj (yai (ybq.ok n)) (yas)) Tryz.func66 (by kernel_rfl) rfl
def en (n:Nat):Entry:=yaw 66 ia io (fRun (X n) n T Tryz.f66 ia io)
end ycf
namespace ybD
abbrev ia:List Ai:=[.dat yaa,.dat yaa]
abbrev io:List (Nat×Oi):=[(4,.dat (.int .i64))]
abbrev R:Type:=DOut ia io
def X (n:Nat):Ctx:=⟨⟨tab,[ya0.en n],0,[]⟩,10,bnOf 0 ia⟩
def T:CT := .o
def f (n:Nat)(a:yab)(b:yab):Option R:=fRun (X n) n T Tryz.f33 ia io (a,b,())
theorem e0 (n:Nat)(a:yab)(b:yab):f n a b=bnd (ya0.f n a.1 b.1) λu1=>some (u1.1,()):=(yac _).trans (by kernel_rfl)
theorem ok (n:Nat):FnOk Tryz.prog 33 ia io (fRun (X n) n T Tryz.f33 ia io):=yaA mixed tabIs (yaj (yai (ya0.ok n)) (yas)) Tryz.func33 (by kernel_rfl) rfl
def en (n:Nat):Entry:=yaw 33 ia io (fRun (X n) n T Tryz.f33 ia io)
end ybD
namespace ybG
abbrev ia:List Ai:=[.dat (.slice yaa),.fn (.fn 33) []]
abbrev io:List (Nat×Oi):=[(4,.dat .bool)]
abbrev R:Type:=DOut ia io
def X (n:Nat):Ctx:=⟨⟨tab,[ybD.en n],0,[]⟩,24,bnOf 0 ia⟩
abbrev g1:List Si:=[.dat 0 (.slice yaa),.clo 1 (.fn 33) [],.dat 5 (.int .i64)]
abbrev g2:List Si:=[]
def T:CT:=(.s .o (.s (.s .o (.b (.l g1 .o))) (.r g2 .o)))
def J1 (n:Nat)(m:Nat):(List (yab))×Int×Unit→Option R:=jL (X n) n T (yau Tryz.f65) (endK ia io) g1 [1,0,1,0] [] m
def J2 (n:Nat):Unit→Option R:=jR (X n) n T (yau Tryz.f65) (endK ia io) g2 [1,1] []
def f (n:Nat)(list:List (yab)):Option R:=fRun (X n) n T Tryz.f65 ia io (list,())
theorem e0 (n:Nat)(list:List (yab)):f n list=J1 n n (list,1,()):=(yac _).trans (by kernel_rfl)
theorem e1 (n m:Nat)(list:List (yab))(i:Int):J1 n (m+1) (list,i,())=bIf ((hide (decide (i<((list.length:Nat):Int))))) (gIf (0≤(IntKind.i64.wrap (i-(1:Int)))∧(IntKind.i64.wrap (i-(1:Int)))<((list.length:Nat):Int)) (gIf (0≤i∧i<((list.length:Nat):Int)) (bnd (ybD.f n (List.getD list ((IntKind.i64.wrap (i-(1:Int))).toNat) (Va.dflt yaa)) (List.getD list i.toNat (Va.dflt yaa))) λu1=>bIf ((hide (decide (u1.1≥(0:Int))))) (some (false,())) (J1 n m (list,(IntKind.i64.wrap (i+(1:Int))),()))))) (J2 n (())):=(yac _).trans (by kernel_rfl)
theorem e2 (n:Nat):J2 n (())=some (true,()):=(yac _).trans (by kernel_rfl)
theorem ok (n:Nat):FnOk Tryz.prog 65 ia io (fRun (X n) n T Tryz.f65 ia io):=yaA mixed tabIs (yaj (yai (ybD.ok n)) (yas)) Tryz.func65 (by kernel_rfl) rfl
def en (n:Nat):Entry:=yaw 65 ia io (fRun (X n) n T Tryz.f65 ia io)
end ybG
namespace yco
abbrev ia:List Ai:=[.dat yah]
abbrev io:List (Nat×Oi):=[(2,.dat .bool)]
abbrev R:Type:=DOut ia io
def X (n:Nat):Ctx:=⟨⟨tab,[ybZ.en n,ybG.en n,ycf.en n],0,[]⟩,56,bnOf 0 ia⟩
abbrev g1:List Si:=[.ref 1 1 yah,.box 1 (.d yah)]
abbrev g2:List Si:=[.ref 1 1 yah,.box 1 (.d yah)]
def T:CT:=(.s .o (.s .o (.r g1 (.s .o (.r g2 .o)))))
def J1 (n:Nat):yaf×Unit→Option R:=jR (X n) n T (yau Tryz.f31) (endK ia io) g1 [1,1] []
def J2 (n:Nat):yaf×Unit→Option R:=jR (X n) n T (yau Tryz.f31) (endK ia io) g2 [1,1,1] []
def f (n:Nat)(s_:yaf):Option R:=fRun (X n) n T Tryz.f31 ia io (s_,())
theorem e0 (n:Nat)(s_:yaf):f n s_=bnd (ybZ.f n s_.1) λu1=>bIf ((hide (s_.1 != u1.1))) (some (false,())) (bIf ((hide (decide (s_.2.1<(1:Int))))) (some (false,())) (bIf ((hide (decide (s_.2.1>(4611686018427387904:Int))))) (some (false,())) (bIf ((hide (decide (s_.2.2.1<(1:Int))))) (some (false,())) (bIf ((hide (decide (s_.2.2.1>(4611686018427387904:Int))))) (some (false,())) (J1 n (s_,())))))):=(yac _).trans (by kernel_rfl)
theorem e1 (n:Nat)(s_:yaf):J1 n (s_,())=bIf ((hide (decide (((s_.2.2.2.1.length:Nat):Int)>(16:Int))))) (some (false,())) (bnd (ybG.f n s_.2.2.2.1) λu1=>bIf ((!u1.1)) (some (false,())) (J2 n (s_,()))):=(yac _).trans (by kernel_rfl)
theorem e2 (n:Nat)(s_:yaf):J2 n (s_,())=bnd (ycf.f n s_.2.2.2.1 (s_,(0,([],())))) λu1=>bIf (u1.1) (some ((hide (decide (u1.2.1.2.1≤(256:Int)))),())) (some (false,())):=(yac _).trans (by kernel_rfl)
theorem ok (n:Nat):FnOk Tryz.prog 31 ia io (fRun (X n) n T Tryz.f31 ia io):=yaA mixed tabIs (yaj (yai (ybZ.ok n)) (yaj (yai (ybG.ok n)) (yaj (yai (ycf.ok n)) (yas)))) Tryz.func31 (by kernel_rfl) rfl
def en (n:Nat):Entry:=yaw 31 ia io (fRun (X n) n T Tryz.f31 ia io)
end yco
end
end Go.Proofs.YtemhlkdingkjnaaGreatDoor
namespace Go.Proofs.YtemhlkdingkjnaaGreatDoor
open Go Go.Va Go.Proofs
abbrev Ce:Type:=yao
abbrev Seen:Type:=List (Int×Bool)
def got (seen:Seen)(x:Int):Bool:=(mGet (.int .u64) .bool seen x).1
def setS (seen:Seen)(x:Int):Seen:=mSet (.int .u64) .bool seen x true
def idOk (hi:Int)(seen:Seen)(x:Int):Bool:=!decide (x<1)&&(!decide (x≥hi)&&!got seen x)
def yd0 (hi:Int):Seen→List Int→Option Seen
  | seen,[]=>some seen
  | seen,x::l=>if idOk hi seen x=true then yd0 hi (setS seen x) l else none
theorem addIds_app (hi:Int):∀ (a:List Int) (seen:Seen) (b:List Int),yd0 hi seen (a++b)=(yd0 hi seen a).bind λs=>yd0 hi s b
  | [],_,_=>rfl
  | x::a,seen,b=>by
    simp only[List.cons_append,yd0]
    split
    · exact addIds_app hi a _ b
    · rfl
def Step (c:Ce)(r:Bool×Ce)(ok:Bool)(ids:List Int)(add:Int):Prop:=
  r.1=(ok&&(yd0 c.1.2.1 c.2.2.1 ids).isSome)∧∀ s',yd0 c.1.2.1 c.2.2.1 ids=some s'→ok=true→r.2=(c.1,(c.2.1+add,(s',())))
theorem Step.fail {c:Ce}{r:Bool×Ce}{ids:List Int}{add:Int}(h:r.1=false):Step c r false ids add:=⟨by rw[h,Bool.false_and],λ_ _ h=>nomatch h⟩
theorem Step.pure (c:Ce)(b:Bool):Step c (b,c) b [] 0:=⟨by simp[yd0],λs' h _=>by
  simp only[yd0,Option.some.injEq]at h
  subst h
  rw[Int.add_zero]⟩
theorem Step.yes {c:Ce}{b:Bool}{c':Ce}{ok:Bool}{ids:List Int}{add:Int}(h:Step c (b,c') ok ids add)(hb:b=true):ok=true∧∃ s',yd0 c.1.2.1 c.2.2.1 ids=some s'∧c'=(c.1,(c.2.1+add,(s',()))):=by
  have h1:=h.1
  rw[hb]at h1
  have h2:=Bool.and_eq_true _ _ ▸ h1.symm
  obtain⟨h3,h4⟩:=h2
  obtain⟨s',h5⟩:=Option.isSome_iff_exists.1 h4
  exact⟨h3,s',h5,h.2 s' h5 h3⟩
theorem Step.seq {c c1:Ce}{b1:Bool}{r r2:Bool×Ce}{ok1 ok2:Bool}{i1 i2:List Int}{a1 a2:Int}(h1:Step c (b1,c1) ok1 i1 a1)(h2:b1=true→Step c1 r2 ok2 i2 a2)(hr:b1=true→r=r2)(hf:b1=false→r.1=false) :
    Step c r (ok1&&ok2) (i1++i2) (a1+a2):=by
  cases hb:b1 with
  | true=>
    obtain⟨k1,s1,k2,k3⟩:=h1.yes hb
    have h3:=h2 hb
    rw[hr hb]
    subst k3 k1
    obtain⟨m1,m2⟩:=h3
    unfold Step
    rw[addIds_app,k2,Bool.true_and]
    refine⟨m1,λs' hs hok => ?_⟩
    rw[m2 s' hs hok]
    simp only[Int.add_assoc]
  | false=>
    have h3:=h1.1
    rw[hb]at h3
    unfold Step
    rw[hf hb,addIds_app]
    cases hk:ok1 with
    | false=>exact⟨by simp,λ_ _ h=>by simp at h⟩
    | true=>
      rw[hk,Bool.true_and]at h3
      cases hi:yd0 c.1.2.1 c.2.2.1 i1 with
      | none=>exact⟨by simp,λ_ h=>by simp at h⟩
      | some s=>rw[hi]at h3;exact absurd h3 (by simp)
theorem id_is (n:Nat) (c:Ce) (x:Int):∃ b c',ybf.f n c x=some (b,c',())∧Step c (b,c') true [x] 0:=by
  rw[ybf.e0]
  simp only[yaS]
  change ∃ b c',bIf (decide (x<1)) (some (false,c,())) (bIf (decide (x≥c.1.2.1)) (some (false,c,())) (bIf (got c.2.2.1 x) (some (false,c,())) (ybf.J1 n (x,c,()))))=some (b,c',())∧_
  rw[ybf.e1]
  change ∃ b c',bIf (decide (x<1)) (some (false,c,())) (bIf (decide (x≥c.1.2.1)) (some (false,c,())) (bIf (got c.2.2.1 x) (some (false,c,())) (some (true,(c.1,(c.2.1,(setS c.2.2.1 x,()))),()))))=some (b,c',())∧_
  have ha:yd0 c.1.2.1 c.2.2.1 [x]=if (!decide (x<1)&&(!decide (x≥c.1.2.1)&&!got c.2.2.1 x))=true then some (setS c.2.2.1 x) else none:=rfl
  unfold Step
  rw[ha]
  cases decide (x<1)
  · cases decide (x≥c.1.2.1)
    · cases got c.2.2.1 x
      · refine⟨true,_,rfl,rfl,λs' h _ => ?_⟩
        injection h with h
        subst h
        rw[Int.add_zero]
      · exact⟨false,c,rfl,rfl,λs' h=>nomatch h⟩
    · exact⟨false,c,rfl,rfl,λs' h=>nomatch h⟩
  · exact⟨false,c,rfl,rfl,λs' h=>nomatch h⟩
theorem ycA {α:Type}{l:List α}{k:Nat}(d:α)(h:k<l.length):l.drop k=l.getD k d::l.drop (k+1):=by
  rw[List.drop_eq_getElem_cons h]
  simp[h]
def sumI {α:Type}(f:α→Int)(l:List α):Int:=(l.map f).sum
theorem sumI_cons {α:Type}(f:α→Int)(x:α)(l:List α):sumI f (x::l)=f x+sumI f l:=by unfold sumI;rw[List.map_cons,List.sum_cons]
theorem sumI_nn {α:Type}{f:α→Int}:∀ {l:List α},(∀ x∈l,0≤f x)→0≤sumI f l
  | [],_=>by simp[sumI]
  | x::l,h=>by
    rw[sumI_cons]
    have h1:=h x (by simp)
    have h2:=sumI_nn (l:=l) λy hy=>h y (by simp[hy])
    omega
abbrev Lim:Int:=1152921504606846976
theorem index_loop {α:Type} (s:yaf) (d:α) (l:List α) (J:Nat→Int→Ce→Option (Int×Ce×Unit)) (g:α→Ce→Option (Bool×Ce×Unit)) (ok:α→Bool) (ids:α→List Int) (add:α→Int) (hadd:∀ x∈l,0≤add x)
    (hg:∀ x∈l,∀ c:Ce,c.1=s→0≤c.2.1→c.2.1+add x≤Lim→∃ b c',g x c=some (b,c',())∧Step c (b,c') (ok x) (ids x) (add x))
    (hJ:∀ m (k:Nat) (c:Ce),k<l.length→J (m+1) (k:Int) c=bnd (g (l.getD k d) c) λu=>bIf (!u.1) (some ((k:Int),u.2.1,())) (J m ((k+1:Nat):Int) u.2.1))
    (hE:∀ m (c:Ce),J (m+1) ((l.length:Nat):Int) c=some (-1,c,())) :
    ∀ (m k:Nat) (c:Ce),k≤l.length→l.length-k<m→c.1=s→0≤c.2.1→c.2.1+sumI add (l.drop k)≤Lim→∃ i c',J m (k:Int) c=some (i,c',())∧Step c (!decide (i≥0),c') ((l.drop k).all ok) ((l.drop k).flatMap ids) (sumI add (l.drop k))
  | 0,k,_,_,h,_,_,_=>by omega
  | m + 1,k,c,hk,h,hs,h0,h1=>by
    by_cases hlt:k<l.length
    · have hx:=ybr (d:=d) hlt
      have hnn:0≤sumI add (l.drop (k+1)):=sumI_nn λy hy=>hadd y (List.mem_of_mem_drop hy)
      have ha:=hadd _ hx
      rw[ycA d hlt,sumI_cons]at h1 ⊢
      obtain⟨b,c1,k1,k2⟩:=hg _ hx c hs h0 (by omega)
      rw[hJ m k c hlt,k1,bnd_some,List.all_cons,List.flatMap_cons]
      cases hb:b with
      | true=>
        obtain⟨q1,s1,q2,q3⟩:=k2.yes hb
        have e1:c1.1=c.1:=by rw[q3]
        have e2:c1.2.1=c.2.1+add (l.getD k d):=by rw[q3]
        obtain⟨i,c',g1,g2⟩:=index_loop s d l J g ok ids add hadd hg hJ hE m (k+1) c1 (by omega) (by omega) (e1.trans hs) (by omega) (by omega)
        exact⟨i,c',g1,k2.seq (λ_=>g2) (λ_=>rfl) (λh=>nomatch hb.symm.trans h)⟩
      | false=>
        exact⟨k,c1,rfl,k2.seq (r2:=(false,c1)) (λh=>nomatch hb.symm.trans h) (λh=>nomatch hb.symm.trans h) (λ_=>by simp)⟩
    · have e:k=l.length:=by omega
      subst e
      rw[hE,List.drop_length]
      exact⟨-1,c,rfl,Step.pure c true⟩
theorem nan_string (n:Nat)(a:ByteArray):yb9.f n a=some (false,()):=by
  rw[yb9.e0];simp only[yaS];rw[ycV];rfl
theorem cmp_string (n:Nat)(a b:ByteArray):∃ z,ya0.f n a b=some (z,())∧decide (z≥0)=!ltS a b:=by
  rw[ya0.e0,nan_string,nan_string]
  simp only[yaS,bnd_some,yam]
  cases h:ltS a b
  · cases eqS a b
    · exact⟨1,rfl,rfl⟩
    · exact⟨0,rfl,rfl⟩
  · exact⟨-1,rfl,rfl⟩
theorem nan_int (n:Nat)(a:Int):ycC.f n a=some (false,()):=by
  rw[ycC.e0];simp only[yaS];rw[bne_self_eq_false]
theorem cmp_int (n:Nat)(a b:Int):∃ z,ycw.f n a b=some (z,())∧decide (z≥0)=!decide (a<b):=by
  rw[ycw.e0,nan_int,nan_int]
  simp only[yaS,bnd_some,yam]
  cases h:decide (a<b)
  · cases decide (a>b)
    · exact⟨0,rfl,rfl⟩
    · exact⟨1,rfl,rfl⟩
  · exact⟨-1,rfl,rfl⟩
theorem nan_uint64 (n:Nat)(a:Int):yb7.f n a=some (false,()):=by
  rw[yb7.e0];simp only[yaS];rw[bne_self_eq_false]
theorem cmp_uint64 (n:Nat)(a b:Int):∃ z,yb0.f n a b=some (z,())∧decide (z≥0)=!decide (a<b):=by
  rw[yb0.e0,nan_uint64,nan_uint64]
  simp only[yaS,bnd_some,yam]
  cases h:decide (a<b)
  · cases decide (a>b)
    · exact⟨0,rfl,rfl⟩
    · exact⟨1,rfl,rfl⟩
  · exact⟨-1,rfl,rfl⟩
def upB {α:Type}(lt:α→α→Bool)(l:List α):Bool:=chk (λ_=>true) lt none l
theorem up_loop {α:Type}{l:List α}(d:α)(lt:α→α→Bool)(J:Nat→Int→Option (Bool×Unit))(hl:l.length<536870912)
    (hs:∀ m (k:Nat),0<k→k<l.length→J (m+1) (k:Int)=bIf (!lt (l.getD (k-1) d) (l.getD k d)) (some (false,())) (J m ((k+1:Nat):Int)))
    (he:∀ m (k:Nat),l.length≤k→J (m+1) (k:Int)=some (true,())) :
    ∀ (m k:Nat),0<k→l.length+1-k<m→J m (k:Int)=some (chk (λ_=>true) lt (prev l k) (l.drop k),())
  | 0,k,_,h=>by omega
  | m + 1,k,hk,h=>by
    by_cases hlt:k<l.length
    · rw[hs m k hk hlt,up_loop d lt J hl hs he m (k+1) (by omega) (by omega),chk_succ (d:=d) hk hlt]
      cases lt (l.getD (k-1) d) (l.getD k d)<;>rfl
    · rw[he m k (by omega),chk_end (by omega)]
theorem up_all {α:Type}{l:List α}(d:α)(lt:α→α→Bool):chk (λ_=>true) lt (prev l 1) (l.drop 1)=upB lt l:=by
  unfold upB
  cases l with
  | nil=>rfl
  | cons x l=>
    have:=chk_zero (p:=λ_=>true) (q:=lt) (l:=x::l) (d:=d) (by simp)
    rw[Bool.true_and]at this
    exact this.symm
def ydB (a b:yab):Bool:=ltS a.1 b.1
theorem meta_up_Bucket {n:Nat}(hn:n≤536870912){l:List yab}(hl:l.length+1<n):ybG.f n l=some (upB ydB l,()):=by
  rw[ybG.e0,← up_all (Va.dflt yaa)]
  exact up_loop (Va.dflt yaa) ydB (λm k=>ybG.J1 n m (l,k,())) (by omega)
    (λm k h0 hk=>by
      try dsimp only
      obtain⟨z,h1,h2⟩:=cmp_string n (l.getD (k-1) (Va.dflt yaa)).1 (l.getD k (Va.dflt yaa)).1
      rw[ybG.e1,yaS,decide_eq_true (by omega),yap,ybn (x:=(k:Int)-1) (by omega),show ((k:Int)-1)=((k-1:Nat):Int) by omega,yaq ⟨by omega,by omega⟩,yaq ⟨by omega,by omega⟩,Int.toNat_natCast,Int.toNat_natCast,ybD.e0,h1,ya7 k (by omega)]
      simp only[bnd_some,yaS]
      rw[h2];rfl)
    (λm k hk=>by
      try dsimp only
      rw[ybG.e1,yaS,decide_eq_false (by omega),yam,ybG.e2]) n 1 (by omega) (by omega)
def ydx (a b:yad):Bool:=ltS a.1 b.1
theorem meta_up_Object {n:Nat}(hn:n≤536870912){l:List yad}(hl:l.length+1<n):ybH.f n l=some (upB ydx l,()):=by
  rw[ybH.e0,← up_all (Va.dflt yag)]
  exact up_loop (Va.dflt yag) ydx (λm k=>ybH.J1 n m (l,k,())) (by omega)
    (λm k h0 hk=>by
      try dsimp only
      obtain⟨z,h1,h2⟩:=cmp_string n (l.getD (k-1) (Va.dflt yag)).1 (l.getD k (Va.dflt yag)).1
      rw[ybH.e1,yaS,decide_eq_true (by omega),yap,ybn (x:=(k:Int)-1) (by omega),show ((k:Int)-1)=((k-1:Nat):Int) by omega,yaq ⟨by omega,by omega⟩,yaq ⟨by omega,by omega⟩,Int.toNat_natCast,Int.toNat_natCast,ybX.e0,h1,ya7 k (by omega)]
      simp only[bnd_some,yaS]
      rw[h2];rfl)
    (λm k hk=>by
      try dsimp only
      rw[ybH.e1,yaS,decide_eq_false (by omega),yam,ybH.e2]) n 1 (by omega) (by omega)
def ydT (a b:yan):Bool:=decide (a.1<b.1)
theorem meta_up_Upload {n:Nat}(hn:n≤536870912){l:List yan}(hl:l.length+1<n):ybF.f n l=some (upB ydT l,()):=by
  rw[ybF.e0,← up_all (Va.dflt yal)]
  exact up_loop (Va.dflt yal) ydT (λm k=>ybF.J1 n m (l,k,())) (by omega)
    (λm k h0 hk=>by
      try dsimp only
      obtain⟨z,h1,h2⟩:=cmp_uint64 n (l.getD (k-1) (Va.dflt yal)).1 (l.getD k (Va.dflt yal)).1
      rw[ybF.e1,yaS,decide_eq_true (by omega),yap,ybn (x:=(k:Int)-1) (by omega),show ((k:Int)-1)=((k-1:Nat):Int) by omega,yaq ⟨by omega,by omega⟩,yaq ⟨by omega,by omega⟩,Int.toNat_natCast,Int.toNat_natCast,ydU.e0,h1,ya7 k (by omega)]
      simp only[bnd_some,yaS]
      rw[h2];rfl)
    (λm k hk=>by
      try dsimp only
      rw[ybF.e1,yaS,decide_eq_false (by omega),yam,ybF.e2]) n 1 (by omega) (by omega)
def ltPart (a b:yaJ):Bool:=decide (a.1<b.1)
theorem meta_up_Part {n:Nat}(hn:n≤536870912){l:List yaJ}(hl:l.length+1<n):ycj.f n l=some (upB ltPart l,()):=by
  rw[ycj.e0,← up_all (Va.dflt yaK)]
  exact up_loop (Va.dflt yaK) ltPart (λm k=>ycj.J1 n m (l,k,())) (by omega)
    (λm k h0 hk=>by
      try dsimp only
      obtain⟨z,h1,h2⟩:=cmp_int n (l.getD (k-1) (Va.dflt yaK)).1 (l.getD k (Va.dflt yaK)).1
      rw[ycj.e1,yaS,decide_eq_true (by omega),yap,ybn (x:=(k:Int)-1) (by omega),show ((k:Int)-1)=((k-1:Nat):Int) by omega,yaq ⟨by omega,by omega⟩,yaq ⟨by omega,by omega⟩,Int.toNat_natCast,Int.toNat_natCast,yc2.e0,h1,ya7 k (by omega)]
      simp only[bnd_some,yaS]
      rw[h2];rfl)
    (λm k hk=>by
      try dsimp only
      rw[ycj.e1,yaS,decide_eq_false (by omega),yam,ycj.e2]) n 1 (by omega) (by omega)
def verS (s:yaf)(v:Ver):Bool:=!decide (made v>s.1)&&!decide (blob v≥s.2.2.1)
theorem obj_loop {n:Nat} {s:yaf} (o:yad) (hl:o.2.1.length<536870912):∀ (m k:Nat) (c:Ce),k≤o.2.1.length→o.2.1.length-k<m→c.1=s→0≤c.2.1→c.2.1+(o.2.1.length:Int)≤Lim →
    ∃ b c',yaV.J1 n m (o.2.1,((o.2.1.length:Nat):Int),(k:Int),o,c,())=some (b,c',())∧Step c (b,c') ((o.2.1.drop k).all (verS s)) ((o.2.1.drop k).map λv=>v.1) (o.2.1.length:Int)
  | 0,k,_,_,h,_,_,_=>by omega
  | m + 1,k,c,hk,h,hs,h0,h1=>by
    rw[yaV.e1,yaS]
    by_cases hlt:k<o.2.1.length
    · obtain⟨b,c1,k1,k2⟩:=id_is n c (o.2.1.getD k (Va.dflt yae)).1
      rw[decide_eq_true (by omega),yap,yaq ⟨by omega,by omega⟩,Int.toNat_natCast,ya7 k (by omega)]
      change ∃ b c',(bnd (ybf.f n c (o.2.1.getD k (Va.dflt yae)).1) _)=some (b,c',())∧_
      rw[k1,bnd_some,ycA (Va.dflt yae) hlt,List.map_cons,List.all_cons]
      generalize o.2.1.getD k (Va.dflt yae)=v at k1 k2 ⊢
      simp only[yaS]
      cases hb:b with
      | false=>
        refine⟨false,c1,rfl,?_⟩
        have:=k2.seq (r:=(false,c1)) (r2:=(false,c1)) (ok2:=verS s v&&((o.2.1.drop (k+1)).all (verS s))) (i2:=(o.2.1.drop (k+1)).map λv=>v.1) (a2:=(o.2.1.length:Int)) (λh=>nomatch hb.symm.trans h) (λh=>nomatch hb.symm.trans h) (λ_=>rfl)
        rw[Bool.true_and,Int.zero_add]at this
        exact this
      | true=>
        obtain⟨q1,s1,q2,q3⟩:=k2.yes hb
        have e1:c1.1=c.1:=by rw[q3]
        have e2:c1.2.1=c.2.1:=by rw[q3];exact Int.add_zero _
        have fin:∀ b' c',Step c1 (b',c') (verS s v&&((o.2.1.drop (k+1)).all (verS s))) ((o.2.1.drop (k+1)).map λv=>v.1) (o.2.1.length:Int)→Step c (b',c') (verS s v&&((o.2.1.drop (k+1)).all (verS s))) (v.1::(o.2.1.drop (k+1)).map λv=>v.1) (o.2.1.length:Int):=λb' c' hh=>by
          have:=k2.seq (r:=(b',c')) (λ_=>hh) (λ_=>rfl) (λh=>nomatch hb.symm.trans h)
          rw[Bool.true_and,Int.zero_add]at this
          exact this
        rw[Bool.not_true,yam]
        change ∃ b c',bIf (decide (made v>c1.1.1)) (some (false,c1,())) (bIf (decide (blob v≥c1.1.2.2.1)) (some (false,c1,())) (yaV.J1 n m (o.2.1,((o.2.1.length:Nat):Int),((k+1:Nat):Int),o,c1,())))=some (b,c',())∧_
        rw[e1,hs]
        cases hm:decide (made v>s.1) with
        | true=>exact⟨false,c1,rfl,fin _ _ (by unfold verS;rw[hm];exact .fail rfl)⟩
        | false=>
          cases hq:decide (blob v≥s.2.2.1) with
          | true=>exact⟨false,c1,rfl,fin _ _ (by unfold verS;rw[hm,hq];exact .fail rfl)⟩
          | false=>
            obtain⟨b',c',g1,g2⟩:=obj_loop (n:=n) o hl m (k+1) c1 (by omega) (by omega) (e1.trans hs) (by rw[e2];exact h0) (by rw[e2];exact h1)
            refine⟨b',c',g1,fin _ _ ?_⟩
            have:verS s v=true:=by unfold verS;rw[hm,hq];rfl
            rw[this,Bool.true_and];exact g2
    · have e:k=o.2.1.length:=by omega
      subst e
      have hLim:Lim=1152921504606846976:=rfl
      rw[decide_eq_false (by omega),yam,yaV.e2,List.drop_length]
      try dsimp only
      rw[ybn (x:=c.2.1+(o.2.1.length:Int)) (by omega)]
      exact⟨true,_,rfl,rfl,λs' hs' _=>by
        injection hs' with hs'
        subst hs'; rfl⟩
def okO (s:yaf)(o:yad):Bool:=soundB o&&o.2.1.all (verS s)
def idsO (o:yad):List Int:=o.2.1.map λv=>v.1
def lenO (o:yad):Int:=(o.2.1.length:Int)
theorem census_object {n:Nat}(hn:n≤536870912){s:yaf}{o:yad}(ho:OB n o){c:Ce}(hs:c.1=s)(h0:0≤c.2.1)(h1:c.2.1+lenO o≤Lim) :
    ∃ b c',yaV.f n c o=some (b,c',())∧Step c (b,c') (okO s o) (idsO o) (lenO o):=by
  have hl:=ho.list.len
  rw[yaV.e0,object_Sound hn ho,bnd_some]
  unfold okO
  cases hb:soundB o with
  | false=>exact⟨false,c,rfl,.fail rfl⟩
  | true=>
    obtain⟨b,c',k1,k2⟩:=obj_loop (n:=n) o (by omega) n 0 c (by omega) (by omega) hs h0 h1
    exact⟨b,c',k1,k2⟩
def okP' (s:yaf)(p:yaJ):Bool:=partB p&&!decide (p.2.2.1≥s.2.2.1)
def okU' (s:yaf)(u:yan):Bool:=keyB u.2.1&&(tagsB u.2.2.1&&(!decide ((u.2.2.2.1.length:Int)>16)&&(upB ltPart u.2.2.2.1&&u.2.2.2.1.all (okP' s))))
structure UpS (n:Nat)(u:yan):Prop where
  key:u.2.1.size<n
  tg:TsB n u.2.2.1
  ps:u.2.2.2.1.length+1<n
theorem parts_is {n:Nat}(hn:n≤536870912){s:yaf}{l:List yaJ}(hl:l.length<n){c:Ce}(hs:c.1=s)(h0:0≤c.2.1)(h1:c.2.1≤Lim):∃ b c',bnd (ybj.f n l c) (λu=>some ((!u.1),u.2.1,()))=some (b,c',())∧Step c (b,c') (l.all (okP' s)) [] 0:=by
  have hz:∀ k,sumI (λ_:yaJ=>(0:Int)) (l.drop k)=0:=λk=>by
    generalize l.drop k=l
    induction l with
    | nil=>rfl
    | cons x l ih=>rw[sumI_cons,ih];rfl
  obtain⟨i,c',k1,k2⟩:=index_loop s (Va.dflt yaK) l (λm k c=>ya5.J1 n m (l,((l.length:Nat):Int),k,c,())) (λx c=>some (okP' c.1 x,c,())) (okP' s) (λ_=>[]) (λ_=>0) (λ_ _=>Int.le_refl 0)
    (λx _ c hc _ _=>⟨_,c,rfl,by rw[hc];exact Step.pure c _⟩)
    (λm k c hk=>by
      try dsimp only
      rw[ya5.e1,yaS,decide_eq_true (by omega),yap,yaq ⟨by omega,by omega⟩,Int.toNat_natCast,yb4.e0,entry_Part,ya7 k (by omega)]
      simp only[bnd_some,yaS]
      unfold okP'
      cases partB (l.getD k (Va.dflt yaK))<;>cases decide ((l.getD k (Va.dflt yaK)).2.2.1≥c.1.2.2.1)<;>rfl)
    (λm c=>by
      try dsimp only
      rw[ya5.e1,yaS,decide_eq_false (by omega),yam,ya5.e2]) n 0 c (by omega) (by omega) hs h0 (by rw[hz];omega)
  rw[hz,List.drop_zero,show (l.flatMap λ_=>([]:List Int))=[] by simp]at k2
  refine⟨_,c',?_,k2⟩
  rw[ybj.e0,ya5.e0]
  change bnd (bnd (ya5.J1 n n (l,((l.length:Nat):Int),((0:Nat):Int),c,())) _) _=_
  try dsimp only at k1
  rw[k1]
  simp only[bnd_some,yaS]
theorem census_upload {n:Nat} (hn:n≤536870912) {s:yaf} {u:yan} (hu:UpS n u) {c:Ce} (hs:c.1=s) (h0:0≤c.2.1) (h1:c.2.1+0≤Lim) :
    ∃ b c',yaZ.f n c u=some (b,c',())∧Step c (b,c') (okU' s u) [u.1] 0:=by
  obtain⟨b,c1,k1,k2⟩:=id_is n c u.1
  rw[yaZ.e0]
  change ∃ b c',(bnd (ybf.f n c u.1) _)=some (b,c',())∧_
  rw[k1,bnd_some,key24 hu.key hn,tags35 hn hu.tg,meta_up_Part hn hu.ps]
  simp only[bnd_some,yaS]
  cases hb:b with
  | false=>
    refine⟨false,c1,rfl,?_⟩
    have:=k2.seq (r:=(false,c1)) (r2:=(false,c1)) (ok2:=okU' s u) (i2:=[]) (a2:=0) (λh=>nomatch hb.symm.trans h) (λh=>nomatch hb.symm.trans h) (λ_=>rfl)
    rw[Bool.true_and]at this
    exact this
  | true=>
    obtain⟨q1,s1,q2,q3⟩:=k2.yes hb
    have e1:c1.1=c.1:=by rw[q3]
    have e2:c1.2.1=c.2.1:=by rw[q3];exact Int.add_zero _
    have fin:∀ b' c',Step c1 (b',c') (okU' s u) [] 0→Step c (b',c') (okU' s u) [u.1] 0:=λb' c' hh=>by
      have:=k2.seq (r:=(b',c')) (λ_=>hh) (λ_=>rfl) (λh=>nomatch hb.symm.trans h)
      rw[Bool.true_and]at this
      exact this
    obtain⟨b2,c2,g1,g2⟩:=parts_is hn (l:=u.2.2.2.1) (by have:=hu.ps;omega) (e1.trans hs) (by rw[e2];exact h0) (by rw[e2];rw[Int.add_zero]at h1;exact h1)
    have hj:yaZ.J1 n ((),u,c1,())=some (b2,c2,()):=by
      rw[yaZ.e1];exact g1
    rw[Bool.not_true,yam]
    change ∃ b c',bIf (!keyB u.2.1) (some (false,c1,())) (bIf (!tagsB u.2.2.1) (some (false,c1,())) (bIf (decide (((u.2.2.2.1.length:Nat):Int)>16)) (some (false,c1,())) (bIf (!upB ltPart u.2.2.2.1) (some (false,c1,())) (yaZ.J1 n ((),u,c1,())))))=some (b,c',())∧_
    rw[hj]
    unfold okU' at fin ⊢
    revert fin
    cases keyB u.2.1
    · intro fin;exact⟨false,c1,rfl,fin _ _ (.fail rfl)⟩
    · cases tagsB u.2.2.1
      · intro fin;exact⟨false,c1,rfl,fin _ _ (.fail rfl)⟩
      · cases decide (((u.2.2.2.1.length:Nat):Int)>16)
        · cases upB ltPart u.2.2.2.1
          · intro fin;exact⟨false,c1,rfl,fin _ _ (.fail rfl)⟩
          · intro fin;exact⟨b2,c2,rfl,fin _ _ g2⟩
        · intro fin;exact⟨false,c1,rfl,fin _ _ (.fail rfl)⟩
theorem every_Object {n:Nat}(hn:n≤536870912){l:List yad}(hl:l.length<n){s:yaf}{ok:yad→Bool}{ids:yad→List Int}{add:yad→Int}(hadd:∀ x∈l,0≤add x)
    (hg:∀ x∈l,∀ c:Ce,c.1=s→0≤c.2.1→c.2.1+add x≤Lim→∃ b c',yaV.f n c x=some (b,c',())∧Step c (b,c') (ok x) (ids x) (add x))
    {c:Ce} (hs:c.1=s) (h0:0≤c.2.1) (h1:c.2.1+sumI add l≤Lim):∃ b c',ybR.f n l c=some (b,c',())∧Step c (b,c') (l.all ok) (l.flatMap ids) (sumI add l):=by
  obtain⟨i,c',k1,k2⟩:=index_loop s (Va.dflt yag) l (λm k c=>yaP.J1 n m (l,((l.length:Nat):Int),k,c,())) (λx c=>yaV.f n c x) ok ids add hadd hg
    (λm k c hk=>by
      try dsimp only
      rw[yaP.e1,yaS,decide_eq_true (by omega),yap,yaq ⟨by omega,by omega⟩,Int.toNat_natCast,ycc.e0,ya7 k (by omega)]
      change bnd (bnd (yaV.f n c (l.getD k (Va.dflt yag))) λu=>some ((!u.1),u.2.1,())) (λu=>bIf u.1 (some ((k:Int),u.2.1,())) (yaP.J1 n m (l,((l.length:Nat):Int),((k+1:Nat):Int),u.2.1,())))=_
      cases yaV.f n c (l.getD k (Va.dflt yag))<;>rfl)
    (λm c=>by
      try dsimp only
      rw[yaP.e1,yaS,decide_eq_false (by omega),yam,yaP.e2]) n 0 c (by omega) (by omega) hs h0 (by rw[List.drop_zero];exact h1)
  rw[List.drop_zero]at k2
  refine⟨_,c',?_,k2⟩
  rw[ybR.e0,ybp.e0,yaP.e0]
  change bnd (bnd (yaP.J1 n n (l,((l.length:Nat):Int),((0:Nat):Int),c,())) _) _=_
  try dsimp only at k1
  rw[k1]
  simp only[bnd_some,yaS]
theorem every_Upload {n:Nat}(hn:n≤536870912){l:List yan}(hl:l.length<n){s:yaf}{ok:yan→Bool}{ids:yan→List Int}{add:yan→Int}(hadd:∀ x∈l,0≤add x)
    (hg:∀ x∈l,∀ c:Ce,c.1=s→0≤c.2.1→c.2.1+add x≤Lim→∃ b c',yaZ.f n c x=some (b,c',())∧Step c (b,c') (ok x) (ids x) (add x))
    {c:Ce} (hs:c.1=s) (h0:0≤c.2.1) (h1:c.2.1+sumI add l≤Lim):∃ b c',ybS.f n l c=some (b,c',())∧Step c (b,c') (l.all ok) (l.flatMap ids) (sumI add l):=by
  obtain⟨i,c',k1,k2⟩:=index_loop s (Va.dflt yal) l (λm k c=>yaQ.J1 n m (l,((l.length:Nat):Int),k,c,())) (λx c=>yaZ.f n c x) ok ids add hadd hg
    (λm k c hk=>by
      try dsimp only
      rw[yaQ.e1,yaS,decide_eq_true (by omega),yap,yaq ⟨by omega,by omega⟩,Int.toNat_natCast,ycb.e0,ya7 k (by omega)]
      change bnd (bnd (yaZ.f n c (l.getD k (Va.dflt yal))) λu=>some ((!u.1),u.2.1,())) (λu=>bIf u.1 (some ((k:Int),u.2.1,())) (yaQ.J1 n m (l,((l.length:Nat):Int),((k+1:Nat):Int),u.2.1,())))=_
      cases yaZ.f n c (l.getD k (Va.dflt yal))<;>rfl)
    (λm c=>by
      try dsimp only
      rw[yaQ.e1,yaS,decide_eq_false (by omega),yam,yaQ.e2]) n 0 c (by omega) (by omega) hs h0 (by rw[List.drop_zero];exact h1)
  rw[List.drop_zero]at k2
  refine⟨_,c',?_,k2⟩
  rw[ybS.e0,ybm.e0,yaQ.e0]
  change bnd (bnd (yaQ.J1 n n (l,((l.length:Nat):Int),((0:Nat):Int),c,())) _) _=_
  try dsimp only at k1
  rw[k1]
  simp only[bnd_some,yaS]
structure BkS (n:Nat)(b:yab):Prop where
  ru:RusB n b.2.2.1
  gr:GrsB n b.2.2.2.1
  ol:b.2.2.2.2.1.length+1<n
  ob:∀ o∈b.2.2.2.2.1,OB n o
  ul:b.2.2.2.2.2.1.length+1<n
  up:∀ u∈b.2.2.2.2.2.1,UpS n u
def okT (b:yab):Bool:=ydP b.1&&(modeB b.2.1&&(rulesB b.2.2.1&&(grantsB b.2.2.2.1&&(!decide ((b.2.2.2.2.2.1.length:Int)>4)&&(upB ydx b.2.2.2.2.1&&upB ydT b.2.2.2.2.2.1)))))
def okB (s:yaf)(b:yab):Bool:=okT b&&(b.2.2.2.2.1.all (okO s)&&b.2.2.2.2.2.1.all (okU' s))
def idsB (b:yab):List Int:=b.2.2.2.2.1.flatMap idsO++b.2.2.2.2.2.1.flatMap λu=>[u.1]
def lenB (b:yab):Int:=sumI lenO b.2.2.2.2.1+sumI (λ_=>0) b.2.2.2.2.2.1
theorem lenO_nn (o:yad):0≤lenO o:=Int.natCast_nonneg _
theorem census_bucket {n:Nat}(h3:300≤n)(hn:n≤536870912){s:yaf}{b:yab}(hb:BkS n b){c:Ce}(hs:c.1=s)(h0:0≤c.2.1)(h1:c.2.1+lenB b≤Lim) :
    ∃ r c',yaT.f n c b=some (r,c',())∧Step c (r,c') (okB s b) (idsB b) (lenB b):=by
  have hn1:0≤sumI lenO b.2.2.2.2.1:=sumI_nn λo _=>lenO_nn o
  have hn2:0≤sumI (λ_:yan=>(0:Int)) b.2.2.2.2.2.1:=sumI_nn λ_ _=>Int.le_refl 0
  unfold lenB at h1
  have hol:=hb.ol
  have hul:=hb.ul
  obtain⟨r1,c1,k1,k2⟩:=every_Object hn (by omega) (s:=s) (ok:=okO s) (ids:=idsO) (add:=lenO) (λo _=>lenO_nn o) (λo ho c hc g0 g1=>census_object hn (hb.ob o ho) hc g0 g1) hs h0 (l:=b.2.2.2.2.1) (by omega)
  have hj:∃ r c',yaT.J2 n (b,c,())=some (r,c',())∧Step c (r,c') (b.2.2.2.2.1.all (okO s)&&b.2.2.2.2.2.1.all (okU' s)) (idsB b) (lenB b):=by
    rw[yaT.e2]
    change ∃ r c',bnd (ybR.f n b.2.2.2.2.1 c) _=some (r,c',())∧_
    rw[k1,bnd_some]
    cases hr:r1 with
    | false=>exact⟨false,c1,rfl,k2.seq (r2:=(false,c1)) (λh=>nomatch hr.symm.trans h) (λh=>nomatch hr.symm.trans h) (λ_=>rfl)⟩
    | true=>
      obtain⟨q1,s1,q2,q3⟩:=k2.yes hr
      have e1:c1.1=c.1:=by rw[q3]
      have e2:c1.2.1=c.2.1+sumI lenO b.2.2.2.2.1:=by rw[q3]
      obtain⟨r2,c2,g1,g2⟩:=every_Upload hn (by omega) (s:=s) (ok:=okU' s) (ids:=λu=>[u.1]) (add:=λ_=>0) (λ_ _=>Int.le_refl 0) (λu hu c hc g0 g1=>census_upload hn (hb.up u hu) hc g0 g1) (e1.trans hs) (by rw[e2];omega) (l:=b.2.2.2.2.2.1) (by rw[e2];omega)
      refine⟨r2,c2,?_,k2.seq (λ_=>g2) (λ_=>rfl) (λh=>nomatch hr.symm.trans h)⟩
      rw[yap]
      change bnd (ybS.f n b.2.2.2.2.2.1 c1) _=_
      rw[g1];rfl
  obtain⟨r,c',g1,g2⟩:=hj
  rw[yaT.e0,label_Bucket h3,mode_Good,entry_Rules hn hb.ru,entry_Grants hn hb.gr]
  simp only[bnd_some]
  change ∃ r c',bIf (!ydP b.1) (some (false,c,())) (bIf (!modeB b.2.1) (some (false,c,())) (bIf (!rulesB b.2.2.1) (some (false,c,())) (bIf (!grantsB b.2.2.2.1) (some (false,c,())) (yaT.J1 n (b,c,())))))=some (r,c',())∧_
  rw[yaT.e1,meta_up_Object hn hb.ol,meta_up_Upload hn hb.ul]
  simp only[bnd_some,yaS]
  change ∃ r c',bIf (!ydP b.1) (some (false,c,())) (bIf (!modeB b.2.1) (some (false,c,())) (bIf (!rulesB b.2.2.1) (some (false,c,())) (bIf (!grantsB b.2.2.2.1) (some (false,c,())) (bIf (decide (((b.2.2.2.2.2.1.length:Nat):Int)>4)) (some (false,c,())) (bIf (!upB ydx b.2.2.2.2.1) (some (false,c,())) (bIf (!upB ydT b.2.2.2.2.2.1) (some (false,c,())) (yaT.J2 n (b,c,()))))))))=some (r,c',())∧_
  rw[g1]
  unfold okB okT
  cases ydP b.1
  · exact⟨false,c,rfl,.fail rfl⟩
  cases modeB b.2.1
  · exact⟨false,c,rfl,.fail rfl⟩
  cases rulesB b.2.2.1
  · exact⟨false,c,rfl,.fail rfl⟩
  cases grantsB b.2.2.2.1
  · exact⟨false,c,rfl,.fail rfl⟩
  cases decide (((b.2.2.2.2.2.1.length:Nat):Int)>4)
  · cases upB ydx b.2.2.2.2.1
    · exact⟨false,c,rfl,.fail rfl⟩
    cases upB ydT b.2.2.2.2.2.1
    · exact⟨false,c,rfl,.fail rfl⟩
    exact⟨r,c',rfl,g2⟩
  · exact⟨false,c,rfl,.fail rfl⟩
theorem every_Bucket {n:Nat}(hn:n≤536870912){l:List yab}(hl:l.length<n){s:yaf}{ok:yab→Bool}{ids:yab→List Int}{add:yab→Int}(hadd:∀ x∈l,0≤add x)
    (hg:∀ x∈l,∀ c:Ce,c.1=s→0≤c.2.1→c.2.1+add x≤Lim→∃ b c',yaT.f n c x=some (b,c',())∧Step c (b,c') (ok x) (ids x) (add x))
    {c:Ce} (hs:c.1=s) (h0:0≤c.2.1) (h1:c.2.1+sumI add l≤Lim):∃ b c',ycf.f n l c=some (b,c',())∧Step c (b,c') (l.all ok) (l.flatMap ids) (sumI add l):=by
  obtain⟨i,c',k1,k2⟩:=index_loop s (Va.dflt yaa) l (λm k c=>yaO.J1 n m (l,((l.length:Nat):Int),k,c,())) (λx c=>yaT.f n c x) ok ids add hadd hg
    (λm k c hk=>by
      try dsimp only
      rw[yaO.e1,yaS,decide_eq_true (by omega),yap,yaq ⟨by omega,by omega⟩,Int.toNat_natCast,ych.e0,ya7 k (by omega)]
      change bnd (bnd (yaT.f n c (l.getD k (Va.dflt yaa))) λu=>some ((!u.1),u.2.1,())) (λu=>bIf u.1 (some ((k:Int),u.2.1,())) (yaO.J1 n m (l,((l.length:Nat):Int),((k+1:Nat):Int),u.2.1,())))=_
      cases yaT.f n c (l.getD k (Va.dflt yaa))<;>rfl)
    (λm c=>by
      try dsimp only
      rw[yaO.e1,yaS,decide_eq_false (by omega),yam,yaO.e2]) n 0 c (by omega) (by omega) hs h0 (by rw[List.drop_zero];exact h1)
  rw[List.drop_zero]at k2
  refine⟨_,c',?_,k2⟩
  rw[ycf.e0,ybq.e0,yaO.e0]
  change bnd (bnd (yaO.J1 n n (l,((l.length:Nat):Int),((0:Nat):Int),c,())) _) _=_
  try dsimp only at k1
  rw[k1]
  simp only[bnd_some,yaS]
structure StS (n:Nat)(s:yaf):Prop where
  len:s.2.2.2.1.length+1<n
  bk:∀ b∈s.2.2.2.1,BkS n b
  lim:sumI lenB s.2.2.2.1≤Lim
  few:(s.2.2.2.1.flatMap idsB).length<n
def topB (s:yaf):Bool:=(s.1==ydH s.1)&&(!decide (s.2.1<1)&&(!decide (s.2.1>4611686018427387904)&&(!decide (s.2.2.1<1)&&!decide (s.2.2.1>4611686018427387904))))
def idsS (s:yaf):List Int:=s.2.2.2.1.flatMap idsB
def ydE (s:yaf):Bool:=topB s&&(!decide ((s.2.2.2.1.length:Int)>16)&&(upB ydB s.2.2.2.1&&(s.2.2.2.1.all (okB s)&&((yd0 s.2.1 [] (idsS s)).isSome&&decide (sumI lenB s.2.2.2.1≤256)))))
theorem lenB_nn (b:yab):0≤lenB b:=by
  have h1:0≤sumI lenO b.2.2.2.2.1:=sumI_nn λo _=>lenO_nn o
  have h2:0≤sumI (λ_:yan=>(0:Int)) b.2.2.2.2.2.1:=sumI_nn λ_ _=>Int.le_refl 0
  unfold lenB;omega
theorem meta_Sound {n:Nat} (h3:300≤n) (hn:n≤536870912) {s:yaf} (hs:StS n s):yco.f n s=some (ydE s,()):=by
  have hl:=hs.len
  obtain⟨r,c',k1,k2⟩:=every_Bucket hn (by omega) (s:=s) (ok:=okB s) (ids:=idsB) (add:=lenB) (λb _=>lenB_nn b) (λb hb c hc g0 g1=>census_bucket h3 hn (hs.bk b hb) hc g0 g1) (c:=(s,(0,([],())))) rfl (Int.le_refl 0) (l:=s.2.2.2.1) (by rw[Int.zero_add];exact hs.lim)
  rw[yco.e0,clamp33,bnd_some,yco.e1,meta_up_Bucket hn hs.len,bnd_some,yco.e2,k1,bnd_some]
  simp only[yaS]
  have h2:bIf r (some (decide (c'.2.1≤256),())) (some (false,()))=some (s.2.2.2.1.all (okB s)&&((yd0 s.2.1 [] (idsS s)).isSome&&decide (sumI lenB s.2.2.2.1≤256)),()):=by
    have q:=k2.1
    cases hr:r with
    | true=>
      obtain⟨q1,s1,q2,q3⟩:=k2.yes hr
      have q2:yd0 s.2.1 [] (idsS s)=some s1:=q2
      rw[q1,q2,q3,yap]
      change some (decide (0+sumI lenB s.2.2.2.1≤256),())=some (decide (sumI lenB s.2.2.2.1≤256),())
      rw[Int.zero_add]
    | false=>
      rw[hr]at q
      have q:false=(s.2.2.2.1.all (okB s)&&(yd0 s.2.1 [] (idsS s)).isSome):=q
      rw[yam,← Bool.and_assoc,← q];rfl
  rw[h2]
  unfold ydE topB
  change bIf (!(s.1==ydH s.1)) _ _=_
  cases (s.1==ydH s.1)
  · rfl
  cases decide (s.2.1<1)
  · cases decide (s.2.1>4611686018427387904)
    · cases decide (s.2.2.1<1)
      · cases decide (s.2.2.1>4611686018427387904)
        · cases decide ((s.2.2.2.1.length:Int)>16)
          · cases upB ydB s.2.2.2.1<;>rfl
          · rfl
        · rfl
      · rfl
    · rfl
  · rfl
end Go.Proofs.YtemhlkdingkjnaaGreatDoor
