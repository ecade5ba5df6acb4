/-
  What the functions compute, by the abstract interpreter.
-/
import Derived.Test.YtemhlkdingkjnaaGreatDoorF0
import Derived.Test.YtemhlkdingkjnaaGreatDoorVaTab
import Derived.Shelf.Unicode.ValidAny
import Derived.Shelf.Small.Strs
import Derived.Shelf.Strings.Split
import Derived.Shelf.Strings.SlTrimAscii
import Derived.Test.YtemhlkdingkjnaaGreatDoorVaSort
import Derived.Lib.Small
import Derived.Lib.Walk
import Derived.Sort.Grow
import Derived.Maps.AppendAt
import Derived.OwnWalk
import Derived.LoopN
import Derived.Deep.RegionWith
set_option linter.unusedVariables false
set_option linter.unusedSimpArgs false
namespace Go.Proofs
open Go.Shelf
def Tryz.l146_ren:Go.Shelf.Ren:=⟨fun | 146=>209 | 221=>229 | 268=>242 | 138=>243 | 143=>244 | 195=>250 | 197=>246 | 218=>251 | 219=>252 | 260=>253 | 217=>237 | 225=>256 | 224=>257 | 267=>258 | 266=>249 | 314=>260 | n=>n,fun | 9=>9 | 31=>249 | 3=>3 | 4=>4 | 0=>0 | 105=>289 | 21=>21 | 5=>5 | 46=>155 | 119=>281 | 139=>284 | 138=>283 | 146=>295 | 51=>193 | n=>n,fun | 1=>2 | 3=>0 | 4=>1 | n=>n⟩
theorem Tryz.l146:Go.Proofs.Lays.n146 Tryz.prog Tryz.l146_ren:={
  mixed:=by kernel_rfl
  f138:=Tryz.func243.trans (congrArg some (by kernel_rfl))
  f143:=Tryz.func244.trans (congrArg some (by kernel_rfl))
  f146:=Tryz.func209.trans (congrArg some (by kernel_rfl))
  f195:=Tryz.func250.trans (congrArg some (by kernel_rfl))
  f197:=Tryz.func246.trans (congrArg some (by kernel_rfl))
  f217:=Tryz.func237.trans (congrArg some (by kernel_rfl))
  f218:=Tryz.func251.trans (congrArg some (by kernel_rfl))
  f219:=Tryz.func252.trans (congrArg some (by kernel_rfl))
  f221:=Tryz.func229.trans (congrArg some (by kernel_rfl))
  f224:=Tryz.func257.trans (congrArg some (by kernel_rfl))
  f225:=Tryz.func256.trans (congrArg some (by kernel_rfl))
  f260:=Tryz.func253.trans (congrArg some (by kernel_rfl))
  f266:=Tryz.func249.trans (congrArg some (by kernel_rfl))
  f267:=Tryz.func258.trans (congrArg some (by kernel_rfl))
  f268:=Tryz.func242.trans (congrArg some (by kernel_rfl))
  f314:=Tryz.func260.trans (congrArg some (by kernel_rfl))
  t0:=Tryz.underlying0
  a0:=Tryz.isAgg0
  z0:=Tryz.sizeOf0
  v0:=Tryz.zeroValue0
  t3:=Tryz.underlying3
  a3:=Tryz.isAgg3
  z3:=Tryz.sizeOf3
  v3:=Tryz.zeroValue3
  t4:=Tryz.underlying4
  a4:=Tryz.isAgg4
  z4:=Tryz.sizeOf4
  v4:=Tryz.zeroValue4
  t5:=Tryz.underlying5
  a5:=Tryz.isAgg5
  z5:=Tryz.sizeOf5
  v5:=Tryz.zeroValue5
  t9:=Tryz.underlying9
  a9:=Tryz.isAgg9
  z9:=Tryz.sizeOf9
  v9:=Tryz.zeroValue9
  t21:=Tryz.underlying21
  a21:=Tryz.isAgg21
  z21:=Tryz.sizeOf21
  v21:=Tryz.zeroValue21
  t31:=Tryz.underlying249
  a31:=Tryz.isAgg249
  z31:=Tryz.sizeOf249
  v31:=Tryz.zeroValue249
  t46:=Tryz.underlying155
  a46:=Tryz.isAgg155
  z46:=Tryz.sizeOf155
  v46:=Tryz.zeroValue155
  t51:=Tryz.underlying193
  a51:=Tryz.isAgg193
  z51:=Tryz.sizeOf193
  v51:=Tryz.zeroValue193
  t105:=Tryz.underlying289
  a105:=Tryz.isAgg289
  z105:=Tryz.sizeOf289
  v105:=Tryz.zeroValue289
  t119:=Tryz.underlying281
  a119:=Tryz.isAgg281
  z119:=Tryz.sizeOf281
  t138:=Tryz.underlying283
  a138:=Tryz.isAgg283
  z138:=Tryz.sizeOf283
  v138:=Tryz.zeroValue283
  t139:=Tryz.underlying284
  a139:=Tryz.isAgg284
  z139:=Tryz.sizeOf284
  v139:=Tryz.zeroValue284
  t146:=Tryz.underlying295
  a146:=Tryz.isAgg295
  z146:=Tryz.sizeOf295
  v146:=Tryz.zeroValue295
  g1:=by kernel_rfl
  g3:=by kernel_rfl
  g4:=by kernel_rfl }
def Tryz.l160_ren:Go.Shelf.Ren:=⟨fun | 160=>210 | 232=>231 | 231=>230 | 227=>232 | 234=>234 | 233=>233 | 236=>236 | 235=>235 | 228=>245 | 271=>248 | 151=>247 | 197=>246 | 120=>255 | 152=>254 | 260=>253 | 137=>211 | 119=>259 | 224=>257 | 225=>256 | 217=>237 | 266=>249 | n=>n,fun | 9=>9 | 4=>4 | 3=>3 | 5=>5 | 117=>274 | 116=>273 | 0=>0 | 124=>277 | 21=>21 | 105=>289 | 46=>155 | 119=>281 | 139=>284 | 138=>283 | n=>n,fun | 3=>0 | 4=>1 | n=>n⟩
theorem Tryz.l160:Go.Proofs.Lays.n160 Tryz.prog Tryz.l160_ren:={
  mixed:=by kernel_rfl
  f119:=Tryz.func259.trans (congrArg some (by kernel_rfl))
  f120:=Tryz.func255.trans (congrArg some (by kernel_rfl))
  f137:=Tryz.func211.trans (congrArg some (by kernel_rfl))
  f151:=Tryz.func247.trans (congrArg some (by kernel_rfl))
  f152:=Tryz.func254.trans (congrArg some (by kernel_rfl))
  f160:=Tryz.func210.trans (congrArg some (by kernel_rfl))
  f197:=Tryz.func246.trans (congrArg some (by kernel_rfl))
  f217:=Tryz.func237.trans (congrArg some (by kernel_rfl))
  f224:=Tryz.func257.trans (congrArg some (by kernel_rfl))
  f225:=Tryz.func256.trans (congrArg some (by kernel_rfl))
  f227:=Tryz.func232.trans (congrArg some (by kernel_rfl))
  f228:=Tryz.func245.trans (congrArg some (by kernel_rfl))
  f231:=Tryz.func230.trans (congrArg some (by kernel_rfl))
  f232:=Tryz.func231.trans (congrArg some (by kernel_rfl))
  f233:=Tryz.func233.trans (congrArg some (by kernel_rfl))
  f234:=Tryz.func234.trans (congrArg some (by kernel_rfl))
  f235:=Tryz.func235.trans (congrArg some (by kernel_rfl))
  f236:=Tryz.func236.trans (congrArg some (by kernel_rfl))
  f260:=Tryz.func253.trans (congrArg some (by kernel_rfl))
  f266:=Tryz.func249.trans (congrArg some (by kernel_rfl))
  f271:=Tryz.func248.trans (congrArg some (by kernel_rfl))
  t0:=Tryz.underlying0
  a0:=Tryz.isAgg0
  z0:=Tryz.sizeOf0
  v0:=Tryz.zeroValue0
  t3:=Tryz.underlying3
  a3:=Tryz.isAgg3
  z3:=Tryz.sizeOf3
  v3:=Tryz.zeroValue3
  t4:=Tryz.underlying4
  a4:=Tryz.isAgg4
  z4:=Tryz.sizeOf4
  v4:=Tryz.zeroValue4
  t5:=Tryz.underlying5
  a5:=Tryz.isAgg5
  z5:=Tryz.sizeOf5
  v5:=Tryz.zeroValue5
  t9:=Tryz.underlying9
  a9:=Tryz.isAgg9
  z9:=Tryz.sizeOf9
  v9:=Tryz.zeroValue9
  t21:=Tryz.underlying21
  a21:=Tryz.isAgg21
  z21:=Tryz.sizeOf21
  v21:=Tryz.zeroValue21
  t46:=Tryz.underlying155
  a46:=Tryz.isAgg155
  z46:=Tryz.sizeOf155
  v46:=Tryz.zeroValue155
  t105:=Tryz.underlying289
  a105:=Tryz.isAgg289
  z105:=Tryz.sizeOf289
  v105:=Tryz.zeroValue289
  t116:=Tryz.underlying273
  a116:=Tryz.isAgg273
  z116:=Tryz.sizeOf273
  t117:=Tryz.underlying274
  a117:=Tryz.isAgg274
  z117:=Tryz.sizeOf274
  v117:=Tryz.zeroValue274
  t119:=Tryz.underlying281
  a119:=Tryz.isAgg281
  z119:=Tryz.sizeOf281
  t124:=Tryz.underlying277
  a124:=Tryz.isAgg277
  z124:=Tryz.sizeOf277
  v124:=Tryz.zeroValue277
  t138:=Tryz.underlying283
  a138:=Tryz.isAgg283
  z138:=Tryz.sizeOf283
  v138:=Tryz.zeroValue283
  t139:=Tryz.underlying284
  a139:=Tryz.isAgg284
  z139:=Tryz.sizeOf284
  v139:=Tryz.zeroValue284
  g3:=by kernel_rfl
  g4:=by kernel_rfl }
def Tryz.l196_ren:Go.Shelf.Ren:=⟨fun | 196=>219 | 259=>238 | n=>n,fun | 9=>9 | 4=>4 | 3=>3 | 5=>5 | 12=>12 | 119=>281 | 0=>0 | 46=>155 | 139=>284 | 138=>283 | 53=>22 | n=>n,fun | 3=>0 | 4=>1 | n=>n⟩
theorem Tryz.l196:Go.Proofs.Lays.n196 Tryz.prog Tryz.l196_ren:={
  mixed:=by kernel_rfl
  f196:=Tryz.func219.trans (congrArg some (by kernel_rfl))
  f259:=Tryz.func238.trans (congrArg some (by kernel_rfl))
  t0:=Tryz.underlying0
  a0:=Tryz.isAgg0
  z0:=Tryz.sizeOf0
  v0:=Tryz.zeroValue0
  t3:=Tryz.underlying3
  a3:=Tryz.isAgg3
  z3:=Tryz.sizeOf3
  v3:=Tryz.zeroValue3
  t4:=Tryz.underlying4
  a4:=Tryz.isAgg4
  z4:=Tryz.sizeOf4
  v4:=Tryz.zeroValue4
  t5:=Tryz.underlying5
  a5:=Tryz.isAgg5
  z5:=Tryz.sizeOf5
  v5:=Tryz.zeroValue5
  t9:=Tryz.underlying9
  a9:=Tryz.isAgg9
  z9:=Tryz.sizeOf9
  v9:=Tryz.zeroValue9
  t12:=Tryz.underlying12
  a12:=Tryz.isAgg12
  z12:=Tryz.sizeOf12
  v12:=Tryz.zeroValue12
  t46:=Tryz.underlying155
  a46:=Tryz.isAgg155
  z46:=Tryz.sizeOf155
  v46:=Tryz.zeroValue155
  t53:=Tryz.underlying22
  a53:=Tryz.isAgg22
  z53:=Tryz.sizeOf22
  v53:=Tryz.zeroValue22
  t119:=Tryz.underlying281
  a119:=Tryz.isAgg281
  z119:=Tryz.sizeOf281
  t138:=Tryz.underlying283
  a138:=Tryz.isAgg283
  z138:=Tryz.sizeOf283
  v138:=Tryz.zeroValue283
  t139:=Tryz.underlying284
  a139:=Tryz.isAgg284
  z139:=Tryz.sizeOf284
  v139:=Tryz.zeroValue284
  g3:=by kernel_rfl
  g4:=by kernel_rfl }
def Tryz.l137_ren:Go.Shelf.Ren:=⟨fun | 137=>211 | 217=>237 | 266=>249 | n=>n,fun | 9=>9 | 5=>5 | 3=>3 | n=>n,fun | n=>n⟩
theorem Tryz.l137:Go.Proofs.Lays.n137 Tryz.prog Tryz.l137_ren:={
  mixed:=by kernel_rfl
  f137:=Tryz.func211.trans (congrArg some (by kernel_rfl))
  f217:=Tryz.func237.trans (congrArg some (by kernel_rfl))
  f266:=Tryz.func249.trans (congrArg some (by kernel_rfl))
  t3:=Tryz.underlying3
  a3:=Tryz.isAgg3
  z3:=Tryz.sizeOf3
  v3:=Tryz.zeroValue3
  t5:=Tryz.underlying5
  a5:=Tryz.isAgg5
  z5:=Tryz.sizeOf5
  v5:=Tryz.zeroValue5
  t9:=Tryz.underlying9
  a9:=Tryz.isAgg9
  z9:=Tryz.sizeOf9
  v9:=Tryz.zeroValue9 }
end Go.Proofs
namespace Go.Proofs.YtemhlkdingkjnaaGreatDoor
open Go Go.Va Go.Proofs
theorem acc_get:∀ (i:Nat),i<16→acceptCells[2*i]?=some (Value.int .u8 (Lib.accLo i))∧acceptCells[2*i+1]?=some (Value.int .u8 (Lib.accHi i))
  | 0,_ | 1,_ | 2,_ | 3,_ | 4,_ | 5,_ | 6,_ | 7,_ | 8,_ | 9,_ | 10,_ | 11,_ | 12,_ | 13,_ | 14,_ | 15,_=>⟨rfl,rfl⟩
  | n+16,h=>absurd h (by omega)
theorem utf8Tabs {E:Env}{w:World}(h:GlOk E w):Lib.Utf8Tabs (Tryz.l196_ren.g 3) (Tryz.l196_ren.g 4) w:=by
  obtain⟨_,c0,e0,h0⟩:=h.1 (0,λcs=>cs=firstCells) (by simp[Gl.tab])
  obtain⟨_,c1,e1,h1⟩:=h.1 (1,λcs=>cs=acceptCells) (by simp[Gl.tab])
  have e0:c0=firstCells:=e0
  have e1:c1=acceptCells:=e1
  subst e0 e1
  have h0:=h0.2
  have h1:=h1.2
  refine⟨λc hc => ?_,λi hi => ?_⟩
  · have:=h0 c (by simp[firstCells,Lib.firstTab];exact hc)
    simp[firstCells,Lib.firstTab]at this
    exact this
  · have hl:acceptCells.length=32:=by kernel_rfl
    have a0:=h1 (2*i) (by rw[hl];omega)
    have a1:=h1 (2*i+1) (by rw[hl];omega)
    obtain⟨e0,e1⟩:=acc_get i hi
    rw[List.getElem?_eq_getElem (by rw[hl];omega)]at e0 e1
    simp only[Option.some.injEq]at e0 e1
    simp only[Nat.zero_add]at a0 a1
    rw[e0]at a0
    rw[e1]at a1
    exact⟨a0,a1⟩
theorem maxLen_cell {E:Env}{w:World}(h:GlOk E w):∃ m,w.cell? ⟨Tryz.l146_ren.g 1,0,none⟩=some (.int .i64 m):=by
  obtain⟨_,c,⟨m,e⟩,h2⟩:=h.1 (2,λcs=>∃ m,cs=[.int .i64 m]) (by simp[Gl.tab])
  have e:c=[.int .i64 m]:=e
  subst e
  have:=h2.2 0 (by simp)
  exact⟨m,this⟩
namespace F_unicode_utf8_ValidString
abbrev ia:List Ai:=[.dat .str]
abbrev io:List (Nat×Oi):=[(2,.dat .bool)]
noncomputable def f (s:ByteArray):Option (DOut ia io):=if s.size≤9223372036854775807 then some (Lib.validD s.data.toList,()) else none
theorem ok:FnOk Tryz.prog 219 ia io (λv=>f v.1):=by
  refine leaf_ok ⟨Tryz.f219,Tryz.func219,by kernel_rfl,by kernel_rfl⟩ rfl (λ_=>rfl) (λ_=>rfl) (λv u h E w vals hgl hc => ?_)
  obtain⟨x,vs,rfl,h1,h3⟩:=hc
  have h3:vs=[]:=h3
  subst h3
  have h1:x = .string v.1:=V_str.1 h1
  subst h1
  unfold f at h
  split at h
  · next hs=>
    injection h with h
    subst h
    refine (Any.utf8_ValidString Tryz.l196 v.1 w hs (utf8Tabs hgl)).mono ?_
    rintro e w' ⟨rfl,hb⟩
    exact⟨_,rfl,⟨hb.os,hb.tape,hb.output,hb.size,hb.block⟩,λE=>V_bool.2 rfl⟩
  · exact absurd h (by simp)
noncomputable def en:Entry:=mkEntry 219 ia io (λv=>f v.1)
end F_unicode_utf8_ValidString
namespace F_strings_IndexByte
abbrev ia:List Ai:=[.dat .str,.dat (.int .u8)]
abbrev io:List (Nat×Oi):=[(4,.dat (.int .i64))]
noncomputable def f (s:ByteArray)(c:Int):Option (DOut ia io):=some (Lib.indexByte s.data.toList c.toNat.toUInt8,())
theorem ok:FnOk Tryz.prog 211 ia io (λv=>f v.1 v.2.1):=by
  refine leaf_ok ⟨Tryz.f211,Tryz.func211,by kernel_rfl,by kernel_rfl⟩ rfl (λ_=>rfl) (λ_=>rfl) (λv u h E w vals hgl hc => ?_)
  obtain⟨x,vs,rfl,h1,y,vs',rfl,h2,h3⟩:=hc
  have h3:vs'=[]:=h3
  subst h3
  have h1:x = .string v.1:=V_str.1 h1
  have h2:y = .int .u8 v.2.1:=V_int.1 h2
  subst h1 h2
  injection h with h
  subst h
  refine (Any.strings_IndexByte Tryz.l137 v.1 v.2.1 w).mono ?_
  rintro e w' ⟨rfl,rfl⟩
  exact⟨_,rfl,.refl _,λE=>V_int.2 rfl⟩
noncomputable def en:Entry:=mkEntry 211 ia io (λv=>f v.1 v.2.1)
end F_strings_IndexByte
namespace F_strings_Trim
abbrev ia:List Ai:=[.dat .str,.dat .str]
abbrev io:List (Nat×Oi):=[(4,.dat .str)]
noncomputable def f (s c:ByteArray):Option (DOut ia io):=if s.size≤9223372036854775807∧c.size<4294967281∧(∀ b∈c.data.toList,b.toNat<128) then some (⟨(Lib.trimS s.data.toList c.data.toList).toArray⟩,()) else none
theorem zero116 (w:World):(zeroValue (Tryz.l160_ren.t 116)).run Tryz.prog w = .ok (.agg (Array.replicate 256 (.bool false))) w:=by
  have h:Tryz.prog.info? (Tryz.l160_ren.t 116)=some ((Tryz.prog.info? (Tryz.l160_ren.t 116)).getD default):=by kernel_rfl
  have h2:((Tryz.prog.info? (Tryz.l160_ren.t 116)).getD default).zero=some (.agg (Array.replicate 256 (.bool false))):=by kernel_rfl
  simp only[zeroValue,Sem.run_bind,Va.run_typeInfo h,Result.andThen_ok,h2,Sem.run_pure]
theorem ok:FnOk Tryz.prog 210 ia io (λv=>f v.1 v.2.1):=by
  refine leaf_ok ⟨Tryz.f210,Tryz.func210,by kernel_rfl,by kernel_rfl⟩ rfl (λ_=>rfl) (λ_=>rfl) (λv u h E w vals hgl hc => ?_)
  obtain⟨x,vs,rfl,h1,y,vs',rfl,h2,h3⟩:=hc
  have h3:vs'=[]:=h3
  subst h3
  have h1:x = .string v.1:=V_str.1 h1
  have h2:y = .string v.2.1:=V_str.1 h2
  subst h1 h2
  unfold f at h
  split at h
  · next hs=>
    injection h with h
    subst h
    refine (Any.strings_Trim_ascii Tryz.l160 zero116 (by kernel_rfl) v.1 v.2.1 w hs.1 hs.2.1 (λj b hj=>hs.2.2 b (List.mem_of_getElem? hj))).mono ?_
    rintro e w' ⟨rfl,hb⟩
    exact⟨_,rfl,⟨hb.os,hb.tape,hb.output,hb.size,hb.block⟩,λE=>V_str.2 rfl⟩
  · exact absurd h (by simp)
noncomputable def en:Entry:=mkEntry 210 ia io (λv=>f v.1 v.2.1)
end F_strings_Trim
namespace F_strings_Split
abbrev ia:List Ai:=[.dat .str,.dat .str]
abbrev io:List (Nat×Oi):=[(4,.val (.r 0 .str))]
noncomputable def f (s sep:ByteArray):Option (DOut ia io):=if s.size<4294967281∧1≤sep.size then some (Lib.splitB sep 0 (Lib.countB s sep) s,()) else none
theorem ok:FnOk Tryz.prog 209 ia io (λv=>f v.1 v.2.1):=by
  refine leaf_row_ok ⟨Tryz.f209,Tryz.func209,by kernel_rfl,by kernel_rfl⟩ rfl (λ_=>rfl) (λv u h E w vals hgl hc => ?_)
  obtain⟨x,vs,rfl,h1,y,vs',rfl,h2,h3⟩:=hc
  have h3:vs'=[]:=h3
  subst h3
  have h1:x = .string v.1:=V_str.1 h1
  have h2:y = .string v.2.1:=V_str.1 h2
  subst h1 h2
  unfold f at h
  split at h
  · next hs=>
    injection h with h
    subst h
    obtain⟨m,hm⟩:=maxLen_cell hgl
    refine (Any.strings_Split Tryz.l146 (by kernel_rfl) v.1 v.2.1 m w hs.1 hm hs.2).mono ?_
    rintro e w' ⟨rfl,rfl⟩
    have hl:=Lib.splitB_all v.2.1 hs.2 0 _ v.1 rfl
    refine⟨_,_,by rw[hl],rfl,λS w' => ?_⟩
    have:∀ l:List ByteArray,RdL (Rd S w' .str) l (l.map Value.string):=by
      intro l
      induction l with
      | nil=>rfl
      | cons x l ih=>exact⟨[.string x],l.map Value.string,rfl,rfl,ih⟩
    exact this _
  · exact absurd h (by simp)
noncomputable def en:Entry:=mkEntry 209 ia io (λv=>f v.1 v.2.1)
end F_strings_Split
end Go.Proofs.YtemhlkdingkjnaaGreatDoor
namespace Go.Proofs.YtemhlkdingkjnaaGreatDoor
open Go Go.Va Go.Proofs
namespace F_label_Clean
abbrev ia:List Ai:=[.dat .str]
abbrev io:List (Nat×Oi):=[(2,.dat .bool)]
abbrev R:Type:=DOut ia io
noncomputable def X (n:Nat):Ctx:=⟨⟨tab,[F_unicode_utf8_ValidString.en],0,[]⟩,21,bnOf 0 ia⟩
abbrev g1:List Si:=[.dat 0 .str,.val 6 (.r 200600 (.int .u8)),.dat 7 (.int .i64),.dat 8 (.int .i64)]
abbrev g2:List Si:=[.dat 0 .str]
noncomputable def T:CT:=(.s .o (.s (.s .o (.b (.l g1 .o))) (.r g2 .o)))
noncomputable def J1 (n:Nat)(m:Nat):ByteArray×(List (Int))×Int×Int×Unit→Option R:=jL (X n) n T (bodyOf Tryz.f181) (endK ia io) g1 [1,0,1,0] [] m
noncomputable def J2 (n:Nat):ByteArray×Unit→Option R:=jR (X n) n T (bodyOf Tryz.f181) (endK ia io) g2 [1,1] []
noncomputable def f (n:Nat)(s_:ByteArray):Option R:=fRun (X n) n T Tryz.f181 ia io (s_,())
theorem e0 (n:Nat)(s_:ByteArray):f n s_ =
  J1 n n (s_,(ofBytes s_),(((ofBytes s_).length:Nat):Int),0,()):=(hideF_eq _).trans (by kernel_rfl)
theorem e1 (n m:Nat) (s_:ByteArray) (t6:List (Int)) (t7:Int) (t8:Int):J1 n (m+1) (s_,t6,t7,t8,()) =
  bIf ((hide (decide (t8<t7)))) (
    gIf (0≤t8∧t8<((t6.length:Nat):Int)) (
      bIf ((hide (decide ((List.getD t6 (0+t8.toNat) 0)<(32:Int))))) (
        some (false,())
        ) (
        bIf ((hide ((List.getD t6 (0+t8.toNat) 0)==(127:Int)))) (
          some (false,())
          ) (
          J1 n m (s_,t6,t7,(IntKind.i64.wrap (t8+(1:Int))),())
          )
        )
      )
    ) (
    J2 n (s_,())
    ):=(hideF_eq _).trans (by kernel_rfl)
theorem e2 (n:Nat)(s_:ByteArray):J2 n (s_,()) =
  bnd (F_unicode_utf8_ValidString.f s_) λu1=>
  some (u1.1,()):=(hideF_eq _).trans (by kernel_rfl)
theorem phi (n:Nat):∀ e∈(X n).c.Φ,EntryOk Tryz.prog e:=allE_cons (mkEntry_ok (F_unicode_utf8_ValidString.ok)) (allE_nil)
theorem ok (n:Nat):FnOk Tryz.prog 181 ia io (fRun (X n) n T Tryz.f181 ia io):=tree_ok mixed tabIs (phi n) Tryz.func181 (by kernel_rfl) rfl
noncomputable def en (n:Nat):Entry:=mkEntry 181 ia io (fRun (X n) n T Tryz.f181 ia io)
end F_label_Clean
end Go.Proofs.YtemhlkdingkjnaaGreatDoor
namespace Go.Proofs.YtemhlkdingkjnaaGreatDoor
open Go Go.Va Go.Proofs
namespace F_when_Clamp
abbrev ia:List Ai:=[.dat (.int .i64)]
abbrev io:List (Nat×Oi):=[(2,.dat (.int .i64))]
abbrev R:Type:=DOut ia io
noncomputable def X (n:Nat):Ctx:=⟨⟨tab,[],0,[]⟩,6,bnOf 0 ia⟩
noncomputable def T:CT := .o
noncomputable def f (n:Nat)(t:Int):Option R:=fRun (X n) n T Tryz.f64 ia io (t,())
theorem e0 (n:Nat)(t:Int):f n t =
  some ((maxI .i64 (-62135596800) (minI .i64 t 253402300799)),()):=(hideF_eq _).trans (by kernel_rfl)
theorem phi (n:Nat):∀ e∈(X n).c.Φ,EntryOk Tryz.prog e:=allE_nil
theorem ok (n:Nat):FnOk Tryz.prog 64 ia io (fRun (X n) n T Tryz.f64 ia io):=tree_ok mixed tabIs (phi n) Tryz.func64 (by kernel_rfl) rfl
noncomputable def en (n:Nat):Entry:=mkEntry 64 ia io (fRun (X n) n T Tryz.f64 ia io)
end F_when_Clamp
end Go.Proofs.YtemhlkdingkjnaaGreatDoor
namespace Go.Proofs.YtemhlkdingkjnaaGreatDoor
open Go Go.Va Go.Proofs
namespace F_mode_Sound
abbrev ia:List Ai:=[.dat T_api_Lock]
abbrev io:List (Nat×Oi):=[(2,.dat .bool)]
abbrev R:Type:=DOut ia io
noncomputable def X (n:Nat):Ctx:=⟨⟨tab,[F_when_Clamp.en n],0,[]⟩,19,bnOf 0 ia⟩
abbrev g1:List Si:=[.ref 1 1 T_api_Lock,.dat 10 .bool,.box 1 (.d T_api_Lock)]
noncomputable def T:CT:=(.s .o (.s (.s .o (.b (.s .o (.c .o (.s .o (.r g1 .o)))))) .o))
noncomputable def J1 (n:Nat):Bool×D_api_Lock×Unit→Option R:=jR (X n) n T (bodyOf Tryz.f194) (endK ia io) g1 [1,0,1,0,1,1,1] []
noncomputable def f (n:Nat)(l:D_api_Lock):Option R:=fRun (X n) n T Tryz.f194 ia io (l,())
theorem e0 (n:Nat)(l:D_api_Lock):f n l =
  bIf ((hide (l.1==(0:Int)))) (
    some ((hide (l.2.1==(0:Int))),())
    ) (
    bIf ((hide (l.1==(1:Int)))) (
      J1 n (true,l,())
      ) (
      J1 n ((hide (l.1==(2:Int))),l,())
      )
    ):=(hideF_eq _).trans (by kernel_rfl)
theorem e1 (n:Nat)(t10:Bool)(l:D_api_Lock):J1 n (t10,l,()) =
  bIf (t10) (
    bnd (F_when_Clamp.f n l.2.1) λu1=>
    some ((hide (l.2.1==u1.1)),())
    ) (
    some (false,())
    ):=(hideF_eq _).trans (by kernel_rfl)
theorem phi (n:Nat):∀ e∈(X n).c.Φ,EntryOk Tryz.prog e:=allE_cons (mkEntry_ok (F_when_Clamp.ok n)) (allE_nil)
theorem ok (n:Nat):FnOk Tryz.prog 194 ia io (fRun (X n) n T Tryz.f194 ia io):=tree_ok mixed tabIs (phi n) Tryz.func194 (by kernel_rfl) rfl
noncomputable def en (n:Nat):Entry:=mkEntry 194 ia io (fRun (X n) n T Tryz.f194 ia io)
end F_mode_Sound
end Go.Proofs.YtemhlkdingkjnaaGreatDoor
namespace Go.Proofs.YtemhlkdingkjnaaGreatDoor
open Go Go.Va Go.Proofs
namespace F_tags_good
abbrev ia:List Ai:=[.dat T_api_Tag]
abbrev io:List (Nat×Oi):=[(2,.dat .bool)]
abbrev R:Type:=DOut ia io
noncomputable def X (n:Nat):Ctx:=⟨⟨tab,[F_label_Clean.en n],0,[]⟩,28,bnOf 0 ia⟩
noncomputable def T:CT := .o
noncomputable def f (n:Nat)(t:D_api_Tag):Option R:=fRun (X n) n T Tryz.f217 ia io (t,())
theorem e0 (n:Nat) (t:D_api_Tag):f n t =
  bIf ((hide (!eqS t.1 (⟨#[]⟩:ByteArray)))) (
    bIf ((hide (decide ((t.1.size:Int)≤(64:Int))))) (
      bIf ((hide (decide ((t.2.1.size:Int)≤(64:Int))))) (
        bnd (F_label_Clean.f n t.1) λu1=>
        bIf (u1.1) (
          bnd (F_label_Clean.f n t.2.1) λu2=>
          some (u2.1,())
          ) (
          some (false,())
          )
        ) (
        some (false,())
        )
      ) (
      some (false,())
      )
    ) (
    some (false,())
    ):=(hideF_eq _).trans (by kernel_rfl)
theorem phi (n:Nat):∀ e∈(X n).c.Φ,EntryOk Tryz.prog e:=allE_cons (mkEntry_ok (F_label_Clean.ok n)) (allE_nil)
theorem ok (n:Nat):FnOk Tryz.prog 217 ia io (fRun (X n) n T Tryz.f217 ia io):=tree_ok mixed tabIs (phi n) Tryz.func217 (by kernel_rfl) rfl
noncomputable def en (n:Nat):Entry:=mkEntry 217 ia io (fRun (X n) n T Tryz.f217 ia io)
end F_tags_good
end Go.Proofs.YtemhlkdingkjnaaGreatDoor
namespace Go.Proofs.YtemhlkdingkjnaaGreatDoor
open Go Go.Va Go.Proofs
namespace F_tags_Sound
abbrev ia:List Ai:=[.dat (.slice T_api_Tag)]
abbrev io:List (Nat×Oi):=[(2,.dat .bool)]
abbrev R:Type:=DOut ia io
noncomputable def X (n:Nat):Ctx:=⟨⟨tab,[F_tags_good.en n],0,[]⟩,34,bnOf 0 ia⟩
abbrev g1:List Si:=[.dat 0 (.slice T_api_Tag),.dat 8 (.slice T_api_Tag),.dat 9 (.int .i64),.dat 10 (.int .i64)]
abbrev g2:List Si:=[]
noncomputable def T:CT:=(.s .o (.s .o (.s (.s .o (.b (.l g1 .o))) (.r g2 .o))))
noncomputable def J1 (n:Nat)(m:Nat):(List (D_api_Tag))×(List (D_api_Tag))×Int×Int×Unit→Option R:=jL (X n) n T (bodyOf Tryz.f174) (endK ia io) g1 [1,1,0,1,0] [] m
noncomputable def J2 (n:Nat):Unit→Option R:=jR (X n) n T (bodyOf Tryz.f174) (endK ia io) g2 [1,1,1] []
noncomputable def f (n:Nat)(list:List (D_api_Tag)):Option R:=fRun (X n) n T Tryz.f174 ia io (list,())
theorem e0 (n:Nat)(list:List (D_api_Tag)):f n list =
  bIf ((hide (decide (((list.length:Nat):Int)>(8:Int))))) (
    some (false,())
    ) (
    J1 n n (list,list,((list.length:Nat):Int),0,())
    ):=(hideF_eq _).trans (by kernel_rfl)
theorem e1 (n m:Nat) (list:List (D_api_Tag)) (t8:List (D_api_Tag)) (t9:Int) (t10:Int):J1 n (m+1) (list,t8,t9,t10,()) =
  bIf ((hide (decide (t10<t9)))) (
    gIf (0≤t10∧t10<((t8.length:Nat):Int)) (
      bnd (F_tags_good.f n (List.getD t8 t10.toNat (Va.dflt T_api_Tag))) λu1=>
      bIf ((!u1.1)) (
        some (false,())
        ) (
        bIf ((hide (decide (t10>(0:Int))))) (
          gIf (0≤(IntKind.i64.wrap (t10-(1:Int)))∧(IntKind.i64.wrap (t10-(1:Int)))<((list.length:Nat):Int)) (
            bIf ((hide (!ltS ((List.getD list ((IntKind.i64.wrap (t10-(1:Int))).toNat) (Va.dflt T_api_Tag)).1) ((List.getD t8 t10.toNat (Va.dflt T_api_Tag)).1)))) (
              some (false,())
              ) (
              J1 n m (list,t8,t9,(IntKind.i64.wrap (t10+(1:Int))),())
              )
            )
          ) (
          J1 n m (list,t8,t9,(IntKind.i64.wrap (t10+(1:Int))),())
          )
        )
      )
    ) (
    J2 n (())
    ):=(hideF_eq _).trans (by kernel_rfl)
theorem e2 (n:Nat):J2 n (()) =
  some (true,()):=(hideF_eq _).trans (by kernel_rfl)
theorem phi (n:Nat):∀ e∈(X n).c.Φ,EntryOk Tryz.prog e:=allE_cons (mkEntry_ok (F_tags_good.ok n)) (allE_nil)
theorem ok (n:Nat):FnOk Tryz.prog 174 ia io (fRun (X n) n T Tryz.f174 ia io):=tree_ok mixed tabIs (phi n) Tryz.func174 (by kernel_rfl) rfl
noncomputable def en (n:Nat):Entry:=mkEntry 174 ia io (fRun (X n) n T Tryz.f174 ia io)
end F_tags_Sound
end Go.Proofs.YtemhlkdingkjnaaGreatDoor
namespace Go.Proofs.YtemhlkdingkjnaaGreatDoor
open Go Go.Va Go.Proofs
namespace F_label_Key
abbrev ia:List Ai:=[.dat .str]
abbrev io:List (Nat×Oi):=[(2,.dat .bool)]
abbrev R:Type:=DOut ia io
noncomputable def X (n:Nat):Ctx:=⟨⟨tab,[F_label_Clean.en n],0,[]⟩,14,bnOf 0 ia⟩
noncomputable def T:CT := .o
noncomputable def f (n:Nat)(s_:ByteArray):Option R:=fRun (X n) n T Tryz.f118 ia io (s_,())
theorem e0 (n:Nat)(s_:ByteArray):f n s_ =
  bIf ((hide (!eqS s_ (⟨#[]⟩:ByteArray)))) (
    bIf ((hide (decide ((s_.size:Int)≤(200:Int))))) (
      bnd (F_label_Clean.f n s_) λu1=>
      some (u1.1,())
      ) (
      some (false,())
      )
    ) (
    some (false,())
    ):=(hideF_eq _).trans (by kernel_rfl)
theorem phi (n:Nat):∀ e∈(X n).c.Φ,EntryOk Tryz.prog e:=allE_cons (mkEntry_ok (F_label_Clean.ok n)) (allE_nil)
theorem ok (n:Nat):FnOk Tryz.prog 118 ia io (fRun (X n) n T Tryz.f118 ia io):=tree_ok mixed tabIs (phi n) Tryz.func118 (by kernel_rfl) rfl
noncomputable def en (n:Nat):Entry:=mkEntry 118 ia io (fRun (X n) n T Tryz.f118 ia io)
end F_label_Key
end Go.Proofs.YtemhlkdingkjnaaGreatDoor
namespace Go.Proofs.YtemhlkdingkjnaaGreatDoor
open Go Go.Va Go.Proofs
namespace F_object_Good
abbrev ia:List Ai:=[.dat T_api_Version]
abbrev io:List (Nat×Oi):=[(2,.dat .bool)]
abbrev R:Type:=DOut ia io
noncomputable def X (n:Nat):Ctx:=⟨⟨tab,[F_when_Clamp.en n,F_tags_Sound.en n,F_mode_Sound.en n],0,[]⟩,65,bnOf 0 ia⟩
abbrev g1:List Si:=[.ref 1 1 T_api_Version,.box 1 (.d T_api_Version)]
noncomputable def T:CT:=(.s .o (.s .o (.r g1 .o)))
noncomputable def J1 (n:Nat):D_api_Version×Unit→Option R:=jR (X n) n T (bodyOf Tryz.f182) (endK ia io) g1 [1,1] []
noncomputable def f (n:Nat)(v_:D_api_Version):Option R:=fRun (X n) n T Tryz.f182 ia io (v_,())
theorem e0 (n:Nat)(v_:D_api_Version):f n v_ =
  bIf ((hide (v_.1==(0:Int)))) (
    some (false,())
    ) (
    bnd (F_when_Clamp.f n v_.2.2.2.2.2.1) λu1=>
    bIf ((hide (v_.2.2.2.2.2.1 != u1.1))) (
      some (false,())
      ) (
      J1 n (v_,())
      )
    ):=(hideF_eq _).trans (by kernel_rfl)
theorem e1 (n:Nat) (v_:D_api_Version):J1 n (v_,()) =
  bIf (v_.2.1) (
    bIf ((hide (v_.2.2.1==(0:Int)))) (
      bIf ((hide (v_.2.2.2.1==(0:Int)))) (
        bIf ((hide (eqD (.arr 32 (.int .u8)) v_.2.2.2.2.1 ([]++List.replicate (32-([]:List (Int)).length) 0)))) (
          bIf ((hide (eqD T_api_Lock v_.2.2.2.2.2.2.1 (0,(0,(false,())))))) (
            some ((hide (((v_.2.2.2.2.2.2.2.1.length:Nat):Int)==(0:Int))),())
            ) (
            some (false,())
            )
          ) (
          some (false,())
          )
        ) (
        some (false,())
        )
      ) (
      some (false,())
      )
    ) (
    bIf ((hide (decide (v_.2.2.1≥(0:Int))))) (
      bIf ((hide (decide (v_.2.2.1≤(16384:Int))))) (
        bIf ((hide (decide (v_.2.2.2.1>(0:Int))))) (
          bnd (F_mode_Sound.f n v_.2.2.2.2.2.2.1) λu1=>
          bIf (u1.1) (
            bnd (F_tags_Sound.f n v_.2.2.2.2.2.2.2.1) λu2=>
            some (u2.1,())
            ) (
            some (false,())
            )
          ) (
          some (false,())
          )
        ) (
        some (false,())
        )
      ) (
      some (false,())
      )
    ):=(hideF_eq _).trans (by kernel_rfl)
theorem phi (n:Nat):∀ e∈(X n).c.Φ,EntryOk Tryz.prog e:=allE_cons (mkEntry_ok (F_when_Clamp.ok n)) (allE_cons (mkEntry_ok (F_tags_Sound.ok n)) (allE_cons (mkEntry_ok (F_mode_Sound.ok n)) (allE_nil)))
theorem ok (n:Nat):FnOk Tryz.prog 182 ia io (fRun (X n) n T Tryz.f182 ia io):=tree_ok mixed tabIs (phi n) Tryz.func182 (by kernel_rfl) rfl
noncomputable def en (n:Nat):Entry:=mkEntry 182 ia io (fRun (X n) n T Tryz.f182 ia io)
end F_object_Good
end Go.Proofs.YtemhlkdingkjnaaGreatDoor
namespace Go.Proofs.YtemhlkdingkjnaaGreatDoor
open Go Go.Va Go.Proofs
namespace F_mode_Good
abbrev ia:List Ai:=[.dat T_api_Default]
abbrev io:List (Nat×Oi):=[(2,.dat .bool)]
abbrev R:Type:=DOut ia io
noncomputable def X (n:Nat):Ctx:=⟨⟨tab,[],0,[]⟩,21,bnOf 0 ia⟩
abbrev g1:List Si:=[.ref 1 1 T_api_Default,.dat 10 .bool,.box 1 (.d T_api_Default)]
noncomputable def T:CT:=(.s .o (.s (.s .o (.b (.s .o (.c .o (.s .o (.r g1 .o)))))) .o))
noncomputable def J1 (n:Nat):Bool×D_api_Default×Unit→Option R:=jR (X n) n T (bodyOf Tryz.f102) (endK ia io) g1 [1,0,1,0,1,1,1] []
noncomputable def f (n:Nat)(d:D_api_Default):Option R:=fRun (X n) n T Tryz.f102 ia io (d,())
theorem e0 (n:Nat)(d:D_api_Default):f n d =
  bIf ((hide (d.1==(0:Int)))) (
    some ((hide (d.2.1==(0:Int))),())
    ) (
    bIf ((hide (d.1==(1:Int)))) (
      J1 n (true,d,())
      ) (
      J1 n ((hide (d.1==(2:Int))),d,())
      )
    ):=(hideF_eq _).trans (by kernel_rfl)
theorem e1 (n:Nat)(t10:Bool)(d:D_api_Default):J1 n (t10,d,()) =
  bIf (t10) (
    bIf ((hide (decide (d.2.1≥(1:Int))))) (
      some ((hide (decide (d.2.1≤(36500:Int)))),())
      ) (
      some (false,())
      )
    ) (
    some (false,())
    ):=(hideF_eq _).trans (by kernel_rfl)
theorem phi (n:Nat):∀ e∈(X n).c.Φ,EntryOk Tryz.prog e:=allE_nil
theorem ok (n:Nat):FnOk Tryz.prog 102 ia io (fRun (X n) n T Tryz.f102 ia io):=tree_ok mixed tabIs (phi n) Tryz.func102 (by kernel_rfl) rfl
noncomputable def en (n:Nat):Entry:=mkEntry 102 ia io (fRun (X n) n T Tryz.f102 ia io)
end F_mode_Good
end Go.Proofs.YtemhlkdingkjnaaGreatDoor
namespace Go.Proofs.YtemhlkdingkjnaaGreatDoor
open Go Go.Va Go.Proofs
namespace F_glob_pieces
abbrev ia:List Ai:=[.dat .str]
abbrev io:List (Nat×Oi):=[(2,.val (.r 0 T_glob_piece)),(3,.dat .bool)]
abbrev R:Type:=DOut ia io
noncomputable def X (n:Nat):Ctx:=⟨⟨tab,[],0,[]⟩,46,bnOf 0 ia⟩
abbrev g1:List Si:=[.dat 0 .str,.val 4 (.r 200400 T_glob_piece),.dat 5 (.int .i64)]
abbrev g2:List Si:=[.dat 0 .str,.val 4 (.r 200400 T_glob_piece),.dat 5 (.int .i64)]
abbrev g3:List Si:=[.dat 0 .str,.val 4 (.r 200400 T_glob_piece),.dat 5 (.int .i64)]
abbrev g4:List Si:=[.val 4 (.r 200400 T_glob_piece)]
noncomputable def T:CT:=(.s .o (.s .o (.s .o (.s (.s .o (.b (.l g1 (.s .o (.s (.b (.s .o (.b (.s .o (.r g2 .o))))) (.r g3 .o)))))) (.r g4 .o)))))
noncomputable def J1 (n:Nat)(m:Nat):ByteArray×(List (D_glob_piece))×Int×Unit→Option R:=jL (X n) n T (bodyOf Tryz.f214) (endK ia io) g1 [1,1,1,0,1,0] [] m
noncomputable def J2 (n m1:Nat):ByteArray×(List (D_glob_piece))×Int×Unit→Option R:=jR (X n) n T (bodyOf Tryz.f214) (endK ia io) g2 [1,1,1,0,1,0,0,1,0,0,1,0,1] [m1]
noncomputable def J3 (n m1:Nat):ByteArray×(List (D_glob_piece))×Int×Unit→Option R:=jR (X n) n T (bodyOf Tryz.f214) (endK ia io) g3 [1,1,1,0,1,0,0,1,1] [m1]
noncomputable def J4 (n:Nat):(List (D_glob_piece))×Unit→Option R:=jR (X n) n T (bodyOf Tryz.f214) (endK ia io) g4 [1,1,1,1] []
noncomputable def f (n:Nat)(p:ByteArray):Option R:=fRun (X n) n T Tryz.f214 ia io (p,())
theorem e0 (n:Nat)(p:ByteArray):f n p =
  bIf ((hide (decide ((p.size:Int)>(200:Int))))) (
    some ([],false,())
    ) (
    J1 n n (p,[],0,())
    ):=(hideF_eq _).trans (by kernel_rfl)
theorem e1 (n m:Nat) (p:ByteArray) (out:List (D_glob_piece)) (i:Int):J1 n (m+1) (p,out,i,()) =
  bIf ((hide (decide (i<(p.size:Int))))) (
    gIf (0≤i∧i<(p.size:Int)) (
      bIf ((hide ((bt p i)==(42:Int)))) (
        gIf ((out.length+1)*16≤70368744177664) (
          J3 n m (p,(out++([(2,(0,()))]:List (D_glob_piece))),i,())
          )
        ) (
        bIf ((hide ((bt p i)==(63:Int)))) (
          gIf ((out.length+1)*16≤70368744177664) (
            J3 n m (p,(out++([(1,(0,()))]:List (D_glob_piece))),i,())
            )
          ) (
          bIf ((hide ((bt p i)==(92:Int)))) (
            bIf ((hide ((IntKind.i64.wrap (i+(1:Int)))==(p.size:Int)))) (
              some ([],false,())
              ) (
              J2 n m (p,out,(IntKind.i64.wrap (i+(1:Int))),())
              )
            ) (
            J2 n m (p,out,i,())
            )
          )
        )
      )
    ) (
    J4 n (out,())
    ):=(hideF_eq _).trans (by kernel_rfl)
theorem e2 (n m1:Nat)(p:ByteArray)(out:List (D_glob_piece))(i:Int):J2 n m1 (p,out,i,()) =
  gIf (0≤i∧i<(p.size:Int)) (
    gIf ((out.length+1)*16≤70368744177664) (
      J3 n m1 (p,(out++([(0,((bt p i),()))]:List (D_glob_piece))),i,())
      )
    ):=(hideF_eq _).trans (by kernel_rfl)
theorem e3 (n m1:Nat)(p:ByteArray)(out:List (D_glob_piece))(i:Int):J3 n m1 (p,out,i,()) =
  J1 n m1 (p,out,(IntKind.i64.wrap (i+(1:Int))),()):=(hideF_eq _).trans (by kernel_rfl)
theorem e4 (n:Nat)(out:List (D_glob_piece)):J4 n (out,()) =
  some (out,true,()):=(hideF_eq _).trans (by kernel_rfl)
theorem phi (n:Nat):∀ e∈(X n).c.Φ,EntryOk Tryz.prog e:=allE_nil
theorem ok (n:Nat):FnOk Tryz.prog 214 ia io (fRun (X n) n T Tryz.f214 ia io):=tree_ok mixed tabIs (phi n) Tryz.func214 (by kernel_rfl) rfl
noncomputable def en (n:Nat):Entry:=mkEntry 214 ia io (fRun (X n) n T Tryz.f214 ia io)
end F_glob_pieces
end Go.Proofs.YtemhlkdingkjnaaGreatDoor
namespace Go.Proofs.YtemhlkdingkjnaaGreatDoor
open Go Go.Va Go.Proofs
namespace F_glob_Sound
abbrev ia:List Ai:=[.dat .str]
abbrev io:List (Nat×Oi):=[(2,.dat .bool)]
abbrev R:Type:=DOut ia io
noncomputable def X (n:Nat):Ctx:=⟨⟨tab,[F_glob_pieces.en n],0,[]⟩,11,bnOf 0 ia⟩
noncomputable def T:CT := .o
noncomputable def f (n:Nat)(p:ByteArray):Option R:=fRun (X n) n T Tryz.f168 ia io (p,())
theorem e0 (n:Nat)(p:ByteArray):f n p =
  bnd (F_glob_pieces.f n p) λu1=>
  some (u1.2.1,()):=(hideF_eq _).trans (by kernel_rfl)
theorem phi (n:Nat):∀ e∈(X n).c.Φ,EntryOk Tryz.prog e:=allE_cons (mkEntry_ok (F_glob_pieces.ok n)) (allE_nil)
theorem ok (n:Nat):FnOk Tryz.prog 168 ia io (fRun (X n) n T Tryz.f168 ia io):=tree_ok mixed tabIs (phi n) Tryz.func168 (by kernel_rfl) rfl
noncomputable def en (n:Nat):Entry:=mkEntry 168 ia io (fRun (X n) n T Tryz.f168 ia io)
end F_glob_Sound
end Go.Proofs.YtemhlkdingkjnaaGreatDoor
namespace Go.Proofs.YtemhlkdingkjnaaGreatDoor
open Go Go.Va Go.Proofs
namespace F_entry_Part
abbrev ia:List Ai:=[.dat T_api_Part]
abbrev io:List (Nat×Oi):=[(2,.dat .bool)]
abbrev R:Type:=DOut ia io
noncomputable def X (n:Nat):Ctx:=⟨⟨tab,[],0,[]⟩,26,bnOf 0 ia⟩
noncomputable def T:CT := .o
noncomputable def f (n:Nat)(p:D_api_Part):Option R:=fRun (X n) n T Tryz.f178 ia io (p,())
theorem e0 (n:Nat) (p:D_api_Part):f n p =
  bIf ((hide (decide (p.1≥(1:Int))))) (
    bIf ((hide (decide (p.1≤(10000:Int))))) (
      bIf ((hide (decide (p.2.1≥(0:Int))))) (
        bIf ((hide (decide (p.2.1≤(1024:Int))))) (
          some ((hide (decide (p.2.2.1>(0:Int)))),())
          ) (
          some (false,())
          )
        ) (
        some (false,())
        )
      ) (
      some (false,())
      )
    ) (
    some (false,())
    ):=(hideF_eq _).trans (by kernel_rfl)
theorem phi (n:Nat):∀ e∈(X n).c.Φ,EntryOk Tryz.prog e:=allE_nil
theorem ok (n:Nat):FnOk Tryz.prog 178 ia io (fRun (X n) n T Tryz.f178 ia io):=tree_ok mixed tabIs (phi n) Tryz.func178 (by kernel_rfl) rfl
noncomputable def en (n:Nat):Entry:=mkEntry 178 ia io (fRun (X n) n T Tryz.f178 ia io)
end F_entry_Part
end Go.Proofs.YtemhlkdingkjnaaGreatDoor
namespace Go.Proofs.YtemhlkdingkjnaaGreatDoor
open Go Go.Va Go.Proofs
namespace F_entry_Rule
abbrev ia:List Ai:=[.dat T_api_Rule]
abbrev io:List (Nat×Oi):=[(2,.dat .bool)]
abbrev R:Type:=DOut ia io
noncomputable def X (n:Nat):Ctx:=⟨⟨tab,[F_tags_Sound.en n,F_label_Clean.en n],0,[]⟩,37,bnOf 0 ia⟩
noncomputable def T:CT := .o
noncomputable def f (n:Nat)(r:D_api_Rule):Option R:=fRun (X n) n T Tryz.f165 ia io (r,())
theorem e0 (n : Nat) (r:D_api_Rule):f n r =
  bIf ((hide (decide ((r.1.size:Int)≤(200:Int))))) (
    bnd (F_label_Clean.f n r.1) λu1=>
    bIf (u1.1) (
      bnd (F_tags_Sound.f n r.2.1) λu2=>
      bIf (u2.1) (
        bIf ((hide (decide (r.2.2.1≥(0:Int))))) (
          bIf ((hide (decide (r.2.2.1≤(36500:Int))))) (
            bIf ((hide (decide (r.2.2.2.1≥(0:Int))))) (
              some ((hide (decide (r.2.2.2.1≤(36500:Int)))),())
              ) (
              some (false,())
              )
            ) (
            some (false,())
            )
          ) (
          some (false,())
          )
        ) (
        some (false,())
        )
      ) (
      some (false,())
      )
    ) (
    some (false,())
    ):=(hideF_eq _).trans (by kernel_rfl)
theorem phi (n:Nat):∀ e∈(X n).c.Φ,EntryOk Tryz.prog e:=allE_cons (mkEntry_ok (F_tags_Sound.ok n)) (allE_cons (mkEntry_ok (F_label_Clean.ok n)) (allE_nil))
theorem ok (n:Nat):FnOk Tryz.prog 165 ia io (fRun (X n) n T Tryz.f165 ia io):=tree_ok mixed tabIs (phi n) Tryz.func165 (by kernel_rfl) rfl
noncomputable def en (n:Nat):Entry:=mkEntry 165 ia io (fRun (X n) n T Tryz.f165 ia io)
end F_entry_Rule
end Go.Proofs.YtemhlkdingkjnaaGreatDoor
namespace Go.Proofs.YtemhlkdingkjnaaGreatDoor
open Go Go.Va Go.Proofs
namespace F_entry_Rules_1
abbrev ia:List Ai:=[.dat T_api_Rule]
abbrev io:List (Nat×Oi):=[(2,.dat .bool)]
abbrev R:Type:=DOut ia io
noncomputable def X (n:Nat):Ctx:=⟨⟨tab,[F_entry_Rule.en n],0,[]⟩,6,bnOf 0 ia⟩
noncomputable def T:CT := .o
noncomputable def f (n:Nat)(r:D_api_Rule):Option R:=fRun (X n) n T Tryz.f164 ia io (r,())
theorem e0 (n:Nat)(r:D_api_Rule):f n r =
  bnd (F_entry_Rule.f n r) λu1=>
  some ((!u1.1),()):=(hideF_eq _).trans (by kernel_rfl)
theorem phi (n:Nat):∀ e∈(X n).c.Φ,EntryOk Tryz.prog e:=allE_cons (mkEntry_ok (F_entry_Rule.ok n)) (allE_nil)
theorem ok (n:Nat):FnOk Tryz.prog 164 ia io (fRun (X n) n T Tryz.f164 ia io):=tree_ok mixed tabIs (phi n) Tryz.func164 (by kernel_rfl) rfl
noncomputable def en (n:Nat):Entry:=mkEntry 164 ia io (fRun (X n) n T Tryz.f164 ia io)
end F_entry_Rules_1
end Go.Proofs.YtemhlkdingkjnaaGreatDoor
namespace Go.Proofs.YtemhlkdingkjnaaGreatDoor
open Go Go.Va Go.Proofs
namespace F_slices_IndexFunc_Rule
abbrev ia:List Ai:=[.dat (.slice T_api_Rule),.fn (.fn 164) []]
abbrev io:List (Nat×Oi):=[(4,.dat (.int .i64))]
abbrev R:Type:=DOut ia io
noncomputable def X (n:Nat):Ctx:=⟨⟨tab,[F_entry_Rules_1.en n],0,[]⟩,19,bnOf 0 ia⟩
abbrev g1:List Si:=[.dat 0 (.slice T_api_Rule),.clo 1 (.fn 164) [],.dat 7 (.int .i64),.dat 8 (.int .i64)]
abbrev g2:List Si:=[]
noncomputable def T:CT:=(.s .o (.s (.s .o (.b (.l g1 .o))) (.r g2 .o)))
noncomputable def J1 (n:Nat)(m:Nat):(List (D_api_Rule))×Int×Int×Unit→Option R:=jL (X n) n T (bodyOf Tryz.f212) (endK ia io) g1 [1,0,1,0] [] m
noncomputable def J2 (n:Nat):Unit→Option R:=jR (X n) n T (bodyOf Tryz.f212) (endK ia io) g2 [1,1] []
noncomputable def f (n:Nat)(s_:List (D_api_Rule)):Option R:=fRun (X n) n T Tryz.f212 ia io (s_,())
theorem e0 (n:Nat)(s_:List (D_api_Rule)):f n s_ =
  J1 n n (s_,((s_.length:Nat):Int),0,()):=(hideF_eq _).trans (by kernel_rfl)
theorem e1 (n m:Nat) (s_:List (D_api_Rule)) (t7:Int) (t8:Int):J1 n (m+1) (s_,t7,t8,()) =
  bIf ((hide (decide (t8<t7)))) (
    gIf (0≤t8∧t8<((s_.length:Nat):Int)) (
      bnd (F_entry_Rules_1.f n (List.getD s_ t8.toNat (Va.dflt T_api_Rule))) λu1=>
      bIf (u1.1) (
        some (t8,())
        ) (
        J1 n m (s_,t7,(IntKind.i64.wrap (t8+(1:Int))),())
        )
      )
    ) (
    J2 n (())
    ):=(hideF_eq _).trans (by kernel_rfl)
theorem e2 (n:Nat):J2 n (()) =
  some ((-1),()):=(hideF_eq _).trans (by kernel_rfl)
theorem phi (n:Nat):∀ e∈(X n).c.Φ,EntryOk Tryz.prog e:=allE_cons (mkEntry_ok (F_entry_Rules_1.ok n)) (allE_nil)
theorem ok (n:Nat):FnOk Tryz.prog 212 ia io (fRun (X n) n T Tryz.f212 ia io):=tree_ok mixed tabIs (phi n) Tryz.func212 (by kernel_rfl) rfl
noncomputable def en (n:Nat):Entry:=mkEntry 212 ia io (fRun (X n) n T Tryz.f212 ia io)
end F_slices_IndexFunc_Rule
end Go.Proofs.YtemhlkdingkjnaaGreatDoor
namespace Go.Proofs.YtemhlkdingkjnaaGreatDoor
open Go Go.Va Go.Proofs
namespace F_slices_ContainsFunc_Rule
abbrev ia:List Ai:=[.dat (.slice T_api_Rule),.fn (.fn 164) []]
abbrev io:List (Nat×Oi):=[(4,.dat .bool)]
abbrev R:Type:=DOut ia io
noncomputable def X (n:Nat):Ctx:=⟨⟨tab,[F_slices_IndexFunc_Rule.en n],0,[]⟩,9,bnOf 0 ia⟩
noncomputable def T:CT := .o
noncomputable def f (n:Nat)(s_:List (D_api_Rule)):Option R:=fRun (X n) n T Tryz.f163 ia io (s_,())
theorem e0 (n:Nat)(s_:List (D_api_Rule)):f n s_ =
  bnd (F_slices_IndexFunc_Rule.f n s_) λu1=>
  some ((hide (decide (u1.1≥(0:Int)))),()):=(hideF_eq _).trans (by kernel_rfl)
theorem phi (n:Nat):∀ e∈(X n).c.Φ,EntryOk Tryz.prog e:=allE_cons (mkEntry_ok (F_slices_IndexFunc_Rule.ok n)) (allE_nil)
theorem ok (n:Nat):FnOk Tryz.prog 163 ia io (fRun (X n) n T Tryz.f163 ia io):=tree_ok mixed tabIs (phi n) Tryz.func163 (by kernel_rfl) rfl
noncomputable def en (n:Nat):Entry:=mkEntry 163 ia io (fRun (X n) n T Tryz.f163 ia io)
end F_slices_ContainsFunc_Rule
end Go.Proofs.YtemhlkdingkjnaaGreatDoor
namespace Go.Proofs.YtemhlkdingkjnaaGreatDoor
open Go Go.Va Go.Proofs
namespace F_entry_Rules
abbrev ia:List Ai:=[.dat (.slice T_api_Rule)]
abbrev io:List (Nat×Oi):=[(2,.dat .bool)]
abbrev R:Type:=DOut ia io
noncomputable def X (n:Nat):Ctx:=⟨⟨tab,[F_slices_ContainsFunc_Rule.en n],0,[]⟩,11,bnOf 0 ia⟩
noncomputable def T:CT := .o
noncomputable def f (n:Nat)(list:List (D_api_Rule)):Option R:=fRun (X n) n T Tryz.f103 ia io (list,())
theorem e0 (n:Nat)(list:List (D_api_Rule)):f n list =
  bIf ((hide (decide (((list.length:Nat):Int)≤(8:Int))))) (
    bnd (F_slices_ContainsFunc_Rule.f n list) λu1=>
    some ((!u1.1),())
    ) (
    some (false,())
    ):=(hideF_eq _).trans (by kernel_rfl)
theorem phi (n:Nat):∀ e∈(X n).c.Φ,EntryOk Tryz.prog e:=allE_cons (mkEntry_ok (F_slices_ContainsFunc_Rule.ok n)) (allE_nil)
theorem ok (n:Nat):FnOk Tryz.prog 103 ia io (fRun (X n) n T Tryz.f103 ia io):=tree_ok mixed tabIs (phi n) Tryz.func103 (by kernel_rfl) rfl
noncomputable def en (n:Nat):Entry:=mkEntry 103 ia io (fRun (X n) n T Tryz.f103 ia io)
end F_entry_Rules
end Go.Proofs.YtemhlkdingkjnaaGreatDoor
namespace Go.Proofs.YtemhlkdingkjnaaGreatDoor
open Go Go.Va Go.Proofs
namespace F_entry_Grants_1
abbrev ia:List Ai:=[.dat T_api_Grant]
abbrev io:List (Nat×Oi):=[(2,.dat .bool)]
abbrev R:Type:=DOut ia io
noncomputable def X (n:Nat):Ctx:=⟨⟨tab,[F_glob_Sound.en n],0,[]⟩,19,bnOf 0 ia⟩
noncomputable def T:CT := .o
noncomputable def f (n:Nat)(g:D_api_Grant):Option R:=fRun (X n) n T Tryz.f167 ia io (g,())
theorem e0 (n:Nat)(g:D_api_Grant):f n g =
  bnd (F_glob_Sound.f n g.2.1) λu1=>
  bIf ((!u1.1)) (
    some (true,())
    ) (
    bnd (F_glob_Sound.f n g.2.2.1) λu2=>
    bIf ((!u2.1)) (
      some (true,())
      ) (
      bnd (F_glob_Sound.f n g.2.2.2.1) λu3=>
      some ((!u3.1),())
      )
    ):=(hideF_eq _).trans (by kernel_rfl)
theorem phi (n:Nat):∀ e∈(X n).c.Φ,EntryOk Tryz.prog e:=allE_cons (mkEntry_ok (F_glob_Sound.ok n)) (allE_nil)
theorem ok (n:Nat):FnOk Tryz.prog 167 ia io (fRun (X n) n T Tryz.f167 ia io):=tree_ok mixed tabIs (phi n) Tryz.func167 (by kernel_rfl) rfl
noncomputable def en (n:Nat):Entry:=mkEntry 167 ia io (fRun (X n) n T Tryz.f167 ia io)
end F_entry_Grants_1
end Go.Proofs.YtemhlkdingkjnaaGreatDoor
namespace Go.Proofs.YtemhlkdingkjnaaGreatDoor
open Go Go.Va Go.Proofs
namespace F_slices_IndexFunc_Grant
abbrev ia:List Ai:=[.dat (.slice T_api_Grant),.fn (.fn 167) []]
abbrev io:List (Nat×Oi):=[(4,.dat (.int .i64))]
abbrev R:Type:=DOut ia io
noncomputable def X (n:Nat):Ctx:=⟨⟨tab,[F_entry_Grants_1.en n],0,[]⟩,19,bnOf 0 ia⟩
abbrev g1:List Si:=[.dat 0 (.slice T_api_Grant),.clo 1 (.fn 167) [],.dat 7 (.int .i64),.dat 8 (.int .i64)]
abbrev g2:List Si:=[]
noncomputable def T:CT:=(.s .o (.s (.s .o (.b (.l g1 .o))) (.r g2 .o)))
noncomputable def J1 (n:Nat)(m:Nat):(List (D_api_Grant))×Int×Int×Unit→Option R:=jL (X n) n T (bodyOf Tryz.f213) (endK ia io) g1 [1,0,1,0] [] m
noncomputable def J2 (n:Nat):Unit→Option R:=jR (X n) n T (bodyOf Tryz.f213) (endK ia io) g2 [1,1] []
noncomputable def f (n:Nat)(s_:List (D_api_Grant)):Option R:=fRun (X n) n T Tryz.f213 ia io (s_,())
theorem e0 (n:Nat)(s_:List (D_api_Grant)):f n s_ =
  J1 n n (s_,((s_.length:Nat):Int),0,()):=(hideF_eq _).trans (by kernel_rfl)
theorem e1 (n m:Nat) (s_:List (D_api_Grant)) (t7:Int) (t8:Int):J1 n (m+1) (s_,t7,t8,()) =
  bIf ((hide (decide (t8<t7)))) (
    gIf (0≤t8∧t8<((s_.length:Nat):Int)) (
      bnd (F_entry_Grants_1.f n (List.getD s_ t8.toNat (Va.dflt T_api_Grant))) λu1=>
      bIf (u1.1) (
        some (t8,())
        ) (
        J1 n m (s_,t7,(IntKind.i64.wrap (t8+(1:Int))),())
        )
      )
    ) (
    J2 n (())
    ):=(hideF_eq _).trans (by kernel_rfl)
theorem e2 (n:Nat):J2 n (()) =
  some ((-1),()):=(hideF_eq _).trans (by kernel_rfl)
theorem phi (n:Nat):∀ e∈(X n).c.Φ,EntryOk Tryz.prog e:=allE_cons (mkEntry_ok (F_entry_Grants_1.ok n)) (allE_nil)
theorem ok (n:Nat):FnOk Tryz.prog 213 ia io (fRun (X n) n T Tryz.f213 ia io):=tree_ok mixed tabIs (phi n) Tryz.func213 (by kernel_rfl) rfl
noncomputable def en (n:Nat):Entry:=mkEntry 213 ia io (fRun (X n) n T Tryz.f213 ia io)
end F_slices_IndexFunc_Grant
end Go.Proofs.YtemhlkdingkjnaaGreatDoor
namespace Go.Proofs.YtemhlkdingkjnaaGreatDoor
open Go Go.Va Go.Proofs
namespace F_slices_ContainsFunc_Grant
abbrev ia:List Ai:=[.dat (.slice T_api_Grant),.fn (.fn 167) []]
abbrev io:List (Nat×Oi):=[(4,.dat .bool)]
abbrev R:Type:=DOut ia io
noncomputable def X (n:Nat):Ctx:=⟨⟨tab,[F_slices_IndexFunc_Grant.en n],0,[]⟩,9,bnOf 0 ia⟩
noncomputable def T:CT := .o
noncomputable def f (n:Nat)(s_:List (D_api_Grant)):Option R:=fRun (X n) n T Tryz.f166 ia io (s_,())
theorem e0 (n:Nat)(s_:List (D_api_Grant)):f n s_ =
  bnd (F_slices_IndexFunc_Grant.f n s_) λu1=>
  some ((hide (decide (u1.1≥(0:Int)))),()):=(hideF_eq _).trans (by kernel_rfl)
theorem phi (n:Nat):∀ e∈(X n).c.Φ,EntryOk Tryz.prog e:=allE_cons (mkEntry_ok (F_slices_IndexFunc_Grant.ok n)) (allE_nil)
theorem ok (n:Nat):FnOk Tryz.prog 166 ia io (fRun (X n) n T Tryz.f166 ia io):=tree_ok mixed tabIs (phi n) Tryz.func166 (by kernel_rfl) rfl
noncomputable def en (n:Nat):Entry:=mkEntry 166 ia io (fRun (X n) n T Tryz.f166 ia io)
end F_slices_ContainsFunc_Grant
end Go.Proofs.YtemhlkdingkjnaaGreatDoor
namespace Go.Proofs.YtemhlkdingkjnaaGreatDoor
open Go Go.Va Go.Proofs
namespace F_entry_Grants
abbrev ia:List Ai:=[.dat (.slice T_api_Grant)]
abbrev io:List (Nat×Oi):=[(2,.dat .bool)]
abbrev R:Type:=DOut ia io
noncomputable def X (n:Nat):Ctx:=⟨⟨tab,[F_slices_ContainsFunc_Grant.en n],0,[]⟩,11,bnOf 0 ia⟩
noncomputable def T:CT := .o
noncomputable def f (n:Nat)(list:List (D_api_Grant)):Option R:=fRun (X n) n T Tryz.f104 ia io (list,())
theorem e0 (n:Nat)(list:List (D_api_Grant)):f n list =
  bIf ((hide (decide (((list.length:Nat):Int)≤(8:Int))))) (
    bnd (F_slices_ContainsFunc_Grant.f n list) λu1=>
    some ((!u1.1),())
    ) (
    some (false,())
    ):=(hideF_eq _).trans (by kernel_rfl)
theorem phi (n:Nat):∀ e∈(X n).c.Φ,EntryOk Tryz.prog e:=allE_cons (mkEntry_ok (F_slices_ContainsFunc_Grant.ok n)) (allE_nil)
theorem ok (n:Nat):FnOk Tryz.prog 104 ia io (fRun (X n) n T Tryz.f104 ia io):=tree_ok mixed tabIs (phi n) Tryz.func104 (by kernel_rfl) rfl
noncomputable def en (n:Nat):Entry:=mkEntry 104 ia io (fRun (X n) n T Tryz.f104 ia io)
end F_entry_Grants
end Go.Proofs.YtemhlkdingkjnaaGreatDoor
namespace Go.Proofs.YtemhlkdingkjnaaGreatDoor
open Go Go.Va Go.Proofs
namespace F_label_address
abbrev ia:List Ai:=[.dat .str]
abbrev io:List (Nat×Oi):=[(2,.dat .bool)]
abbrev R:Type:=DOut ia io
noncomputable def X (n:Nat):Ctx:=⟨⟨tab,[F_strings_Split.en,F_strings_Trim.en],0,[]⟩,30,bnOf 0 ia⟩
abbrev g1:List Si:=[.val 11 (.r 201100 .str),.dat 12 (.int .i64),.dat 13 (.int .i64)]
abbrev g2:List Si:=[]
noncomputable def T:CT:=(.s .o (.s .o (.s .o (.s (.s .o (.b (.l g1 .o))) (.r g2 .o)))))
noncomputable def J1 (n:Nat)(m:Nat):(List (ByteArray))×Int×Int×Unit→Option R:=jL (X n) n T (bodyOf Tryz.f161) (endK ia io) g1 [1,1,1,0,1,0] [] m
noncomputable def J2 (n:Nat):Unit→Option R:=jR (X n) n T (bodyOf Tryz.f161) (endK ia io) g2 [1,1,1,1] []
noncomputable def f (n:Nat)(s_:ByteArray):Option R:=fRun (X n) n T Tryz.f161 ia io (s_,())
theorem e0 (n:Nat)(s_:ByteArray):f n s_ =
  bnd (F_strings_Split.f s_ (⟨#[46]⟩:ByteArray)) λu1=>
  bIf ((hide (((u1.1.length:Nat):Int) != (4:Int)))) (
    some (false,())
    ) (
    J1 n n (u1.1,((u1.1.length:Nat):Int),0,())
    ):=(hideF_eq _).trans (by kernel_rfl)
theorem e1 (n m:Nat) (t11:List (ByteArray)) (t12:Int) (t13:Int):J1 n (m+1) (t11,t12,t13,()) =
  bIf ((hide (decide (t13<t12)))) (
    gIf (0≤t13∧t13<((t11.length:Nat):Int)) (
      bIf ((hide (eqS (List.getD t11 (0+t13.toNat) (⟨#[]⟩:ByteArray)) (⟨#[]⟩:ByteArray)))) (
        some (false,())
        ) (
        bIf ((hide (decide (((List.getD t11 (0+t13.toNat) (⟨#[]⟩:ByteArray)).size:Int)>(3:Int))))) (
          some (false,())
          ) (
          bnd (F_strings_Trim.f (List.getD t11 (0+t13.toNat) (⟨#[]⟩:ByteArray)) (⟨#[48,49,50,51,52,53,54,55,56,57]⟩:ByteArray)) λu1=>
          bIf ((hide (!eqS u1.1 (⟨#[]⟩:ByteArray)))) (
            some (false,())
            ) (
            J1 n m (t11,t12,(IntKind.i64.wrap (t13+(1:Int))),())
            )
          )
        )
      )
    ) (
    J2 n (())
    ):=(hideF_eq _).trans (by kernel_rfl)
theorem e2 (n:Nat):J2 n (()) =
  some (true,()):=(hideF_eq _).trans (by kernel_rfl)
theorem phi (n:Nat):∀ e∈(X n).c.Φ,EntryOk Tryz.prog e:=allE_cons (mkEntry_ok (F_strings_Split.ok)) (allE_cons (mkEntry_ok (F_strings_Trim.ok)) (allE_nil))
theorem ok (n:Nat):FnOk Tryz.prog 161 ia io (fRun (X n) n T Tryz.f161 ia io):=tree_ok mixed tabIs (phi n) Tryz.func161 (by kernel_rfl) rfl
noncomputable def en (n:Nat):Entry:=mkEntry 161 ia io (fRun (X n) n T Tryz.f161 ia io)
end F_label_address
end Go.Proofs.YtemhlkdingkjnaaGreatDoor
namespace Go.Proofs.YtemhlkdingkjnaaGreatDoor
open Go Go.Va Go.Proofs
namespace F_label_among
abbrev ia:List Ai:=[.dat .str,.dat (.int .u8)]
abbrev io:List (Nat×Oi):=[(4,.dat .bool)]
abbrev R:Type:=DOut ia io
noncomputable def X (n:Nat):Ctx:=⟨⟨tab,[F_strings_IndexByte.en],0,[]⟩,9,bnOf 0 ia⟩
noncomputable def T:CT := .o
noncomputable def f (n:Nat)(some_:ByteArray)(b:Int):Option R:=fRun (X n) n T Tryz.f162 ia io (some_,b,())
theorem e0 (n:Nat)(some_:ByteArray)(b:Int):f n some_ b =
  bnd (F_strings_IndexByte.f some_ b) λu1=>
  some ((hide (decide (u1.1≥(0:Int)))),()):=(hideF_eq _).trans (by kernel_rfl)
theorem phi (n:Nat):∀ e∈(X n).c.Φ,EntryOk Tryz.prog e:=allE_cons (mkEntry_ok (F_strings_IndexByte.ok)) (allE_nil)
theorem ok (n:Nat):FnOk Tryz.prog 162 ia io (fRun (X n) n T Tryz.f162 ia io):=tree_ok mixed tabIs (phi n) Tryz.func162 (by kernel_rfl) rfl
noncomputable def en (n:Nat):Entry:=mkEntry 162 ia io (fRun (X n) n T Tryz.f162 ia io)
end F_label_among
end Go.Proofs.YtemhlkdingkjnaaGreatDoor
namespace Go.Proofs.YtemhlkdingkjnaaGreatDoor
open Go Go.Va Go.Proofs
namespace F_label_Bucket
abbrev ia:List Ai:=[.dat .str]
abbrev io:List (Nat×Oi):=[(2,.dat .bool)]
abbrev R:Type:=DOut ia io
noncomputable def X (n:Nat):Ctx:=⟨⟨tab,[F_label_address.en n,F_label_among.en n],0,[]⟩,68,bnOf 0 ia⟩
abbrev g1:List Si:=[.dat 0 .str]
abbrev g2:List Si:=[.dat 0 .str,.dat 18 (.int .i64),.dat 19 (.int .i64)]
abbrev g3:List Si:=[.dat 0 .str,.dat 3 (.int .i64),.dat 18 (.int .i64),.dat 19 (.int .i64)]
abbrev g4:List Si:=[]
noncomputable def T:CT:=(.s .o (.s .o (.r g1 (.s (.s .o (.b (.l g2 (.s .o (.s .o (.s (.b (.s .o (.s .o (.s .o (.r g3 .o))))) .o)))))) (.r g4 .o)))))
noncomputable def J1 (n:Nat):ByteArray×Unit→Option R:=jR (X n) n T (bodyOf Tryz.f101) (endK ia io) g1 [1,1] []
noncomputable def J2 (n:Nat)(m:Nat):ByteArray×Int×Int×Unit→Option R:=jL (X n) n T (bodyOf Tryz.f101) (endK ia io) g2 [1,1,0,1,0] [] m
noncomputable def J3 (n m2:Nat):ByteArray×Int×Int×Int×Unit→Option R:=jR (X n) n T (bodyOf Tryz.f101) (endK ia io) g3 [1,1,0,1,0,0,1,1,0,0,1,1,1] [m2]
noncomputable def J4 (n:Nat):Unit→Option R:=jR (X n) n T (bodyOf Tryz.f101) (endK ia io) g4 [1,1,1] []
noncomputable def f (n:Nat)(s_:ByteArray):Option R:=fRun (X n) n T Tryz.f101 ia io (s_,())
theorem e0 (n:Nat) (s_:ByteArray):f n s_ =
  bIf ((hide (decide ((s_.size:Int)<(3:Int))))) (
    some (false,())
    ) (
    bIf ((hide (decide ((s_.size:Int)>(63:Int))))) (
      some (false,())
      ) (
      bnd (F_label_address.f n s_) λu1=>
      bIf (u1.1) (
        some (false,())
        ) (
        J1 n (s_,())
        )
      )
    ):=(hideF_eq _).trans (by kernel_rfl)
theorem e1 (n:Nat)(s_:ByteArray):J1 n (s_,()) =
  J2 n n (s_,(s_.size:Int),0,()):=(hideF_eq _).trans (by kernel_rfl)
theorem e2 (n m : Nat) (s_:ByteArray) (t18:Int) (t19:Int):J2 n (m+1) (s_,t18,t19,()) =
  bIf ((hide (decide (t19<t18)))) (
    gIf (0≤t19∧t19<(s_.size:Int)) (
      bnd (F_label_among.f n (⟨#[97,98,99,100,101,102,103,104,105,106,107,108,109,110,111,112,113,114,115,116,117,118,119,120,121,122,48,49,50,51,52,53,54,55,56,57]⟩:ByteArray) (bt s_ t19)) λu1=>
      bIf (u1.1) (
        J2 n m (s_,t18,(IntKind.i64.wrap (t19+(1:Int))),())
        ) (
        gIf (0≤t19∧t19<(s_.size:Int)) (
          bIf ((hide ((bt s_ t19) != (45:Int)))) (
            gIf (0≤t19∧t19<(s_.size:Int)) (
              bIf ((hide ((bt s_ t19) != (46:Int)))) (
                some (false,())
                ) (
                bIf ((hide (t19==(0:Int)))) (
                  some (false,())
                  ) (
                  bIf ((hide (t19==(IntKind.i64.wrap ((s_.size:Int)-(1:Int)))))) (
                    some (false,())
                    ) (
                    J3 n m (s_,t19,t18,t19,())
                    )
                  )
                )
              )
            ) (
            bIf ((hide (t19==(0:Int)))) (
              some (false,())
              ) (
              bIf ((hide (t19==(IntKind.i64.wrap ((s_.size:Int)-(1:Int)))))) (
                some (false,())
                ) (
                J3 n m (s_,t19,t18,t19,())
                )
              )
            )
          )
        )
      )
    ) (
    J4 n (())
    ):=(hideF_eq _).trans (by kernel_rfl)
theorem e3 (n m2:Nat) (s_:ByteArray) (i:Int) (t18:Int) (t19:Int):J3 n m2 (s_,i,t18,t19,()) =
  gIf (0≤(IntKind.i64.wrap (i+(1:Int)))∧(IntKind.i64.wrap (i+(1:Int)))<(s_.size:Int)) (
    bIf ((hide ((bt s_ (IntKind.i64.wrap (i+(1:Int))))==(46:Int)))) (
      gIf (0≤i∧i<(s_.size:Int)) (
        bIf ((hide ((bt s_ i)==(46:Int)))) (
          some (false,())
          ) (
          bIf ((hide ((bt s_ (IntKind.i64.wrap (i+(1:Int))))==(46:Int)))) (
            some (false,())
            ) (
            J2 n m2 (s_,t18,(IntKind.i64.wrap (t19+(1:Int))),())
            )
          )
        )
      ) (
      bIf ((hide ((bt s_ (IntKind.i64.wrap (i+(1:Int))))==(45:Int)))) (
        gIf (0≤i∧i<(s_.size:Int)) (
          bIf ((hide ((bt s_ i)==(46:Int)))) (
            some (false,())
            ) (
            bIf ((hide ((bt s_ (IntKind.i64.wrap (i+(1:Int))))==(46:Int)))) (
              some (false,())
              ) (
              J2 n m2 (s_,t18,(IntKind.i64.wrap (t19+(1:Int))),())
              )
            )
          )
        ) (
        J2 n m2 (s_,t18,(IntKind.i64.wrap (t19+(1:Int))),())
        )
      )
    ):=(hideF_eq _).trans (by kernel_rfl)
theorem e4 (n:Nat):J4 n (()) =
  some (true,()):=(hideF_eq _).trans (by kernel_rfl)
theorem phi (n:Nat):∀ e∈(X n).c.Φ,EntryOk Tryz.prog e:=allE_cons (mkEntry_ok (F_label_address.ok n)) (allE_cons (mkEntry_ok (F_label_among.ok n)) (allE_nil))
theorem ok (n:Nat):FnOk Tryz.prog 101 ia io (fRun (X n) n T Tryz.f101 ia io):=tree_ok mixed tabIs (phi n) Tryz.func101 (by kernel_rfl) rfl
noncomputable def en (n:Nat):Entry:=mkEntry 101 ia io (fRun (X n) n T Tryz.f101 ia io)
end F_label_Bucket
end Go.Proofs.YtemhlkdingkjnaaGreatDoor
namespace Go.Proofs.YtemhlkdingkjnaaGreatDoor
open Go Go.Va Go.Proofs
namespace F_object_behind
abbrev ia:List Ai:=[.dat T_api_Version,.dat T_api_Version]
abbrev io:List (Nat×Oi):=[(4,.dat .bool)]
abbrev R:Type:=DOut ia io
noncomputable def X (n:Nat):Ctx:=⟨⟨tab,[],0,[]⟩,17,bnOf 0 ia⟩
noncomputable def T:CT := .o
noncomputable def f (n:Nat)(v_:D_api_Version)(last:D_api_Version):Option R:=fRun (X n) n T Tryz.f183 ia io (v_,last,())
theorem e0 (n:Nat)(v_:D_api_Version)(last:D_api_Version):f n v_ last =
  bIf ((hide (decide (v_.1>last.1)))) (
    some ((hide (decide (v_.2.2.2.2.2.1≥last.2.2.2.2.2.1))),())
    ) (
    some (false,())
    ):=(hideF_eq _).trans (by kernel_rfl)
theorem phi (n:Nat):∀ e∈(X n).c.Φ,EntryOk Tryz.prog e:=allE_nil
theorem ok (n:Nat):FnOk Tryz.prog 183 ia io (fRun (X n) n T Tryz.f183 ia io):=tree_ok mixed tabIs (phi n) Tryz.func183 (by kernel_rfl) rfl
noncomputable def en (n:Nat):Entry:=mkEntry 183 ia io (fRun (X n) n T Tryz.f183 ia io)
end F_object_behind
end Go.Proofs.YtemhlkdingkjnaaGreatDoor
namespace Go.Proofs.YtemhlkdingkjnaaGreatDoor
open Go Go.Va Go.Proofs
namespace F_object_rising
abbrev ia:List Ai:=[.dat (.slice T_api_Version)]
abbrev io:List (Nat×Oi):=[(2,.dat .bool)]
abbrev R:Type:=DOut ia io
noncomputable def X (n:Nat):Ctx:=⟨⟨tab,[F_object_Good.en n,F_object_behind.en n],0,[]⟩,30,bnOf 0 ia⟩
abbrev g1:List Si:=[.dat 0 (.slice T_api_Version),.dat 5 (.slice T_api_Version),.dat 6 (.int .i64),.dat 7 (.int .i64)]
abbrev g2:List Si:=[]
noncomputable def T:CT:=(.s .o (.s (.s .o (.b (.l g1 .o))) (.r g2 .o)))
noncomputable def J1 (n:Nat)(m:Nat):(List (D_api_Version))×(List (D_api_Version))×Int×Int×Unit→Option R:=jL (X n) n T (bodyOf Tryz.f119) (endK ia io) g1 [1,0,1,0] [] m
noncomputable def J2 (n:Nat):Unit→Option R:=jR (X n) n T (bodyOf Tryz.f119) (endK ia io) g2 [1,1] []
noncomputable def f (n:Nat)(list:List (D_api_Version)):Option R:=fRun (X n) n T Tryz.f119 ia io (list,())
theorem e0 (n:Nat)(list:List (D_api_Version)):f n list =
  J1 n n (list,list,((list.length:Nat):Int),0,()):=(hideF_eq _).trans (by kernel_rfl)
theorem e1 (n m:Nat) (list:List (D_api_Version)) (t5:List (D_api_Version)) (t6:Int) (t7:Int):J1 n (m+1) (list,t5,t6,t7,()) =
  bIf ((hide (decide (t7<t6)))) (
    gIf (0≤t7∧t7<((t5.length:Nat):Int)) (
      bnd (F_object_Good.f n (List.getD t5 t7.toNat (Va.dflt T_api_Version))) λu1=>
      bIf ((!u1.1)) (
        some (false,())
        ) (
        bIf ((hide (decide (t7>(0:Int))))) (
          gIf (0≤(IntKind.i64.wrap (t7-(1:Int)))∧(IntKind.i64.wrap (t7-(1:Int)))<((list.length:Nat):Int)) (
            bnd (F_object_behind.f n (List.getD t5 t7.toNat (Va.dflt T_api_Version)) (List.getD list ((IntKind.i64.wrap (t7-(1:Int))).toNat) (Va.dflt T_api_Version))) λu2=>
            bIf ((!u2.1)) (
              some (false,())
              ) (
              J1 n m (list,t5,t6,(IntKind.i64.wrap (t7+(1:Int))),())
              )
            )
          ) (
          J1 n m (list,t5,t6,(IntKind.i64.wrap (t7+(1:Int))),())
          )
        )
      )
    ) (
    J2 n (())
    ):=(hideF_eq _).trans (by kernel_rfl)
theorem e2 (n:Nat):J2 n (()) =
  some (true,()):=(hideF_eq _).trans (by kernel_rfl)
theorem phi (n:Nat):∀ e∈(X n).c.Φ,EntryOk Tryz.prog e:=allE_cons (mkEntry_ok (F_object_Good.ok n)) (allE_cons (mkEntry_ok (F_object_behind.ok n)) (allE_nil))
theorem ok (n:Nat):FnOk Tryz.prog 119 ia io (fRun (X n) n T Tryz.f119 ia io):=tree_ok mixed tabIs (phi n) Tryz.func119 (by kernel_rfl) rfl
noncomputable def en (n:Nat):Entry:=mkEntry 119 ia io (fRun (X n) n T Tryz.f119 ia io)
end F_object_rising
end Go.Proofs.YtemhlkdingkjnaaGreatDoor
namespace Go.Proofs.YtemhlkdingkjnaaGreatDoor
open Go Go.Va Go.Proofs
namespace F_object_Sound
abbrev ia:List Ai:=[.dat T_api_Object]
abbrev io:List (Nat×Oi):=[(2,.dat .bool)]
abbrev R:Type:=DOut ia io
noncomputable def X (n:Nat):Ctx:=⟨⟨tab,[F_label_Key.en n,F_object_rising.en n],0,[]⟩,17,bnOf 0 ia⟩
noncomputable def T:CT := .o
noncomputable def f (n:Nat)(o:D_api_Object):Option R:=fRun (X n) n T Tryz.f76 ia io (o,())
theorem e0 (n:Nat)(o:D_api_Object):f n o =
  bnd (F_label_Key.f n o.1) λu1=>
  bIf (u1.1) (
    bIf ((hide (decide (((o.2.1.length:Nat):Int)>(0:Int))))) (
      bnd (F_object_rising.f n o.2.1) λu2=>
      some (u2.1,())
      ) (
      some (false,())
      )
    ) (
    some (false,())
    ):=(hideF_eq _).trans (by kernel_rfl)
theorem phi (n:Nat):∀ e∈(X n).c.Φ,EntryOk Tryz.prog e:=allE_cons (mkEntry_ok (F_label_Key.ok n)) (allE_cons (mkEntry_ok (F_object_rising.ok n)) (allE_nil))
theorem ok (n:Nat):FnOk Tryz.prog 76 ia io (fRun (X n) n T Tryz.f76 ia io):=tree_ok mixed tabIs (phi n) Tryz.func76 (by kernel_rfl) rfl
noncomputable def en (n:Nat):Entry:=mkEntry 76 ia io (fRun (X n) n T Tryz.f76 ia io)
end F_object_Sound
end Go.Proofs.YtemhlkdingkjnaaGreatDoor
namespace Go.Proofs.YtemhlkdingkjnaaGreatDoor
open Go Go.Va Go.Proofs
namespace F_meta_census_id
abbrev ia:List Ai:=[.ptr (.p (.d T_api_State) (.p (.d (.int .i64)) (.p (.m 0 (.int .u64) .bool) (.d .unit)))),.dat (.int .u64)]
abbrev io:List (Nat×Oi):=[(4,.dat .bool)]
abbrev R:Type:=DOut ia io
noncomputable def X (n:Nat):Ctx:=⟨⟨tab,[],0,[]⟩,29,bnOf 0 ia⟩
abbrev g1:List Si:=[.ref 0 500000 T_meta_census,.dat 1 (.int .u64),.box 500000 (.p (.d T_api_State) (.p (.d (.int .i64)) (.p (.m 100000500000000 (.int .u64) .bool) (.d .unit))))]
noncomputable def T:CT:=(.s .o (.s .o (.r g1 .o)))
noncomputable def J1 (n:Nat):Int×D_meta_census×Unit→Option R:=jR (X n) n T (bodyOf Tryz.f171) (endK ia io) g1 [1,1] []
noncomputable def f (n:Nat)(c:D_meta_census)(n_:Int):Option R:=fRun (X n) n T Tryz.f171 ia io (c,n_,())
theorem e0 (n:Nat) (c:D_meta_census) (n_:Int):f n c n_ =
  bIf ((hide (decide (n_<(1:Int))))) (
    some (false,(c.1,(c.2.1,(c.2.2.1,c.2.2.2))),())
    ) (
    bIf ((hide (decide (n_≥c.1.2.1)))) (
      some (false,(c.1,(c.2.1,(c.2.2.1,c.2.2.2))),())
      ) (
      bIf ((mGet (.int .u64) .bool c.2.2.1 n_).1) (
        some (false,(c.1,(c.2.1,(c.2.2.1,c.2.2.2))),())
        ) (
        J1 n (n_,(c.1,(c.2.1,(c.2.2.1,c.2.2.2))),())
        )
      )
    ):=(hideF_eq _).trans (by kernel_rfl)
theorem e1 (n:Nat)(n_:Int)(c:D_meta_census):J1 n (n_,c,()) =
  some (true,(c.1,(c.2.1,((mSet (.int .u64) .bool c.2.2.1 n_ true),c.2.2.2))),()):=(hideF_eq _).trans (by kernel_rfl)
theorem phi (n:Nat):∀ e∈(X n).c.Φ,EntryOk Tryz.prog e:=allE_nil
theorem ok (n:Nat):FnOk Tryz.prog 171 ia io (fRun (X n) n T Tryz.f171 ia io):=tree_ok mixed tabIs (phi n) Tryz.func171 (by kernel_rfl) rfl
noncomputable def en (n:Nat):Entry:=mkEntry 171 ia io (fRun (X n) n T Tryz.f171 ia io)
end F_meta_census_id
end Go.Proofs.YtemhlkdingkjnaaGreatDoor
namespace Go.Proofs.YtemhlkdingkjnaaGreatDoor
open Go Go.Va Go.Proofs
namespace F_meta_census_object
abbrev ia:List Ai:=[.ptr (.p (.d T_api_State) (.p (.d (.int .i64)) (.p (.m 0 (.int .u64) .bool) (.d .unit)))),.dat T_api_Object]
abbrev io:List (Nat×Oi):=[(4,.dat .bool)]
abbrev R:Type:=DOut ia io
noncomputable def X (n:Nat):Ctx:=⟨⟨tab,[F_object_Sound.en n,F_meta_census_id.en n],0,[]⟩,53,bnOf 0 ia⟩
abbrev g1:List Si:=[.ref 0 500000 T_meta_census,.ref 3 3 T_api_Object,.dat 11 (.slice T_api_Version),.dat 12 (.int .i64),.dat 13 (.int .i64),.box 3 (.d T_api_Object),.box 500000 (.p (.d T_api_State) (.p (.d (.int .i64)) (.p (.m 100000500000000 (.int .u64) .bool) (.d .unit))))]
abbrev g2:List Si:=[.ref 0 500000 T_meta_census,.ref 3 3 T_api_Object,.box 3 (.d T_api_Object),.box 500000 (.p (.d T_api_State) (.p (.d (.int .i64)) (.p (.m 100000500000000 (.int .u64) .bool) (.d .unit))))]
noncomputable def T:CT:=(.s .o (.s .o (.s (.s .o (.b (.l g1 .o))) (.r g2 .o))))
noncomputable def J1 (n:Nat)(m:Nat):(List (D_api_Version))×Int×Int×D_api_Object×D_meta_census×Unit→Option R:=jL (X n) n T (bodyOf Tryz.f109) (endK ia io) g1 [1,1,0,1,0] [] m
noncomputable def J2 (n:Nat):D_api_Object×D_meta_census×Unit→Option R:=jR (X n) n T (bodyOf Tryz.f109) (endK ia io) g2 [1,1,1] []
noncomputable def f (n:Nat)(c:D_meta_census)(o:D_api_Object):Option R:=fRun (X n) n T Tryz.f109 ia io (c,o,())
theorem e0 (n:Nat)(c:D_meta_census)(o:D_api_Object):f n c o =
  bnd (F_object_Sound.f n o) λu1=>
  bIf ((!u1.1)) (
    some (false,(c.1,(c.2.1,(c.2.2.1,c.2.2.2))),())
    ) (
    J1 n n (o.2.1,((o.2.1.length:Nat):Int),0,o,(c.1,(c.2.1,(c.2.2.1,c.2.2.2))),())
    ):=(hideF_eq _).trans (by kernel_rfl)
theorem e1 (n m:Nat) (t11:List (D_api_Version)) (t12:Int) (t13:Int) (o:D_api_Object) (c:D_meta_census):J1 n (m+1) (t11,t12,t13,o,c,()) =
  bIf ((hide (decide (t13<t12)))) (
    gIf (0≤t13∧t13<((t11.length:Nat):Int)) (
      bnd (F_meta_census_id.f n (c.1,(c.2.1,(c.2.2.1,c.2.2.2))) ((List.getD t11 t13.toNat (Va.dflt T_api_Version)).1)) λu1=>
      bIf ((!u1.1)) (
        some (false,(u1.2.1.1,(u1.2.1.2.1,(u1.2.1.2.2.1,u1.2.1.2.2.2))),())
        ) (
        bIf ((hide (decide ((((((((List.getD t11 t13.toNat (Va.dflt T_api_Version)).2).2).2).2).2).1)>u1.2.1.1.1)))) (
          some (false,(u1.2.1.1,(u1.2.1.2.1,(u1.2.1.2.2.1,u1.2.1.2.2.2))),())
          ) (
          bIf ((hide (decide ((((((List.getD t11 t13.toNat (Va.dflt T_api_Version)).2).2).2).1)≥u1.2.1.1.2.2.1)))) (
            some (false,(u1.2.1.1,(u1.2.1.2.1,(u1.2.1.2.2.1,u1.2.1.2.2.2))),())
            ) (
            J1 n m (t11,t12,(IntKind.i64.wrap (t13+(1:Int))),o,(u1.2.1.1,(u1.2.1.2.1,(u1.2.1.2.2.1,u1.2.1.2.2.2))),())
            )
          )
        )
      )
    ) (
    J2 n (o,(c.1,(c.2.1,(c.2.2.1,c.2.2.2))),())
    ):=(hideF_eq _).trans (by kernel_rfl)
theorem e2 (n:Nat)(o:D_api_Object)(c:D_meta_census):J2 n (o,c,()) =
  some (true,(c.1,((IntKind.i64.wrap (c.2.1+((o.2.1.length:Nat):Int))),(c.2.2.1,c.2.2.2))),()):=(hideF_eq _).trans (by kernel_rfl)
theorem phi (n:Nat):∀ e∈(X n).c.Φ,EntryOk Tryz.prog e:=allE_cons (mkEntry_ok (F_object_Sound.ok n)) (allE_cons (mkEntry_ok (F_meta_census_id.ok n)) (allE_nil))
theorem ok (n:Nat):FnOk Tryz.prog 109 ia io (fRun (X n) n T Tryz.f109 ia io):=tree_ok mixed tabIs (phi n) Tryz.func109 (by kernel_rfl) rfl
noncomputable def en (n:Nat):Entry:=mkEntry 109 ia io (fRun (X n) n T Tryz.f109 ia io)
end F_meta_census_object
end Go.Proofs.YtemhlkdingkjnaaGreatDoor
namespace Go.Proofs.YtemhlkdingkjnaaGreatDoor
open Go Go.Va Go.Proofs
namespace F_meta_every_Object_1
abbrev ia:List Ai:=[.dat T_api_Object,.fn (.cp (.bd 109)) [(.p (.d T_api_State) (.p (.d (.int .i64)) (.p (.m 0 (.int .u64) .bool) (.d .unit))))]]
abbrev io:List (Nat×Oi):=[(3,.dat .bool)]
abbrev R:Type:=DOut ia io
noncomputable def X (n:Nat):Ctx:=⟨⟨tab,[F_meta_census_object.en n],0,[]⟩,8,bnOf 0 ia⟩
noncomputable def T:CT := .o
noncomputable def f (n:Nat)(x_:D_api_Object)(t1c0:D_meta_census):Option R:=fRun (X n) n T Tryz.f170 ia io (x_,t1c0,())
theorem e0 (n:Nat)(x_:D_api_Object)(t1c0:D_meta_census):f n x_ t1c0 =
  bnd (F_meta_census_object.f n (t1c0.1,(t1c0.2.1,(t1c0.2.2.1,t1c0.2.2.2))) x_) λu1=>
  some ((!u1.1),(u1.2.1.1,(u1.2.1.2.1,(u1.2.1.2.2.1,u1.2.1.2.2.2))),()):=(hideF_eq _).trans (by kernel_rfl)
theorem phi (n:Nat):∀ e∈(X n).c.Φ,EntryOk Tryz.prog e:=allE_cons (mkEntry_ok (F_meta_census_object.ok n)) (allE_nil)
theorem ok (n:Nat):FnOk Tryz.prog 170 ia io (fRun (X n) n T Tryz.f170 ia io):=tree_ok mixed tabIs (phi n) Tryz.func170 (by kernel_rfl) rfl
noncomputable def en (n:Nat):Entry:=mkEntry 170 ia io (fRun (X n) n T Tryz.f170 ia io)
end F_meta_every_Object_1
end Go.Proofs.YtemhlkdingkjnaaGreatDoor
namespace Go.Proofs.YtemhlkdingkjnaaGreatDoor
open Go Go.Va Go.Proofs
namespace F_slices_IndexFunc_Object
abbrev ia:List Ai:=[.dat (.slice T_api_Object),.fn (.fn1 170 (.bd 109)) [(.p (.d T_api_State) (.p (.d (.int .i64)) (.p (.m 0 (.int .u64) .bool) (.d .unit))))]]
abbrev io:List (Nat×Oi):=[(4,.dat (.int .i64))]
abbrev R:Type:=DOut ia io
noncomputable def X (n:Nat):Ctx:=⟨⟨tab,[F_meta_every_Object_1.en n],0,[]⟩,19,bnOf 0 ia⟩
abbrev g1:List Si:=[.dat 0 (.slice T_api_Object),.clo 1 (.fn1 170 (.bd 109)) [(502000,T_meta_census,false)],.dat 7 (.int .i64),.dat 8 (.int .i64),.box 502000 (.p (.d T_api_State) (.p (.d (.int .i64)) (.p (.m 100000502000000 (.int .u64) .bool) (.d .unit))))]
abbrev g2:List Si:=[.box 502000 (.p (.d T_api_State) (.p (.d (.int .i64)) (.p (.m 100000502000000 (.int .u64) .bool) (.d .unit))))]
noncomputable def T:CT:=(.s .o (.s (.s .o (.b (.l g1 .o))) (.r g2 .o)))
noncomputable def J1 (n:Nat)(m:Nat):(List (D_api_Object))×Int×Int×D_meta_census×Unit→Option R:=jL (X n) n T (bodyOf Tryz.f215) (endK ia io) g1 [1,0,1,0] [] m
noncomputable def J2 (n:Nat):D_meta_census×Unit→Option R:=jR (X n) n T (bodyOf Tryz.f215) (endK ia io) g2 [1,1] []
noncomputable def f (n:Nat)(s_:List (D_api_Object))(fc0:D_meta_census):Option R:=fRun (X n) n T Tryz.f215 ia io (s_,fc0,())
theorem e0 (n:Nat)(s_:List (D_api_Object))(fc0:D_meta_census):f n s_ fc0 =
  J1 n n (s_,((s_.length:Nat):Int),0,(fc0.1,(fc0.2.1,(fc0.2.2.1,fc0.2.2.2))),()):=(hideF_eq _).trans (by kernel_rfl)
theorem e1 (n m:Nat) (s_:List (D_api_Object)) (t7:Int) (t8:Int) (b502000:D_meta_census):J1 n (m+1) (s_,t7,t8,b502000,()) =
  bIf ((hide (decide (t8<t7)))) (
    gIf (0≤t8∧t8<((s_.length:Nat):Int)) (
      bnd (F_meta_every_Object_1.f n (List.getD s_ t8.toNat (Va.dflt T_api_Object)) (b502000.1,(b502000.2.1,(b502000.2.2.1,b502000.2.2.2)))) λu1=>
      bIf (u1.1) (
        some (t8,(u1.2.1.1,(u1.2.1.2.1,(u1.2.1.2.2.1,u1.2.1.2.2.2))),())
        ) (
        J1 n m (s_,t7,(IntKind.i64.wrap (t8+(1:Int))),(u1.2.1.1,(u1.2.1.2.1,(u1.2.1.2.2.1,u1.2.1.2.2.2))),())
        )
      )
    ) (
    J2 n ((b502000.1,(b502000.2.1,(b502000.2.2.1,b502000.2.2.2))),())
    ):=(hideF_eq _).trans (by kernel_rfl)
theorem e2 (n:Nat)(b502000:D_meta_census):J2 n (b502000,()) =
  some ((-1),(b502000.1,(b502000.2.1,(b502000.2.2.1,b502000.2.2.2))),()):=(hideF_eq _).trans (by kernel_rfl)
theorem phi (n:Nat):∀ e∈(X n).c.Φ,EntryOk Tryz.prog e:=allE_cons (mkEntry_ok (F_meta_every_Object_1.ok n)) (allE_nil)
theorem ok (n:Nat):FnOk Tryz.prog 215 ia io (fRun (X n) n T Tryz.f215 ia io):=tree_ok mixed tabIs (phi n) Tryz.func215 (by kernel_rfl) rfl
noncomputable def en (n:Nat):Entry:=mkEntry 215 ia io (fRun (X n) n T Tryz.f215 ia io)
end F_slices_IndexFunc_Object
end Go.Proofs.YtemhlkdingkjnaaGreatDoor
namespace Go.Proofs.YtemhlkdingkjnaaGreatDoor
open Go Go.Va Go.Proofs
namespace F_slices_ContainsFunc_Object
abbrev ia:List Ai:=[.dat (.slice T_api_Object),.fn (.fn1 170 (.bd 109)) [(.p (.d T_api_State) (.p (.d (.int .i64)) (.p (.m 0 (.int .u64) .bool) (.d .unit))))]]
abbrev io:List (Nat×Oi):=[(4,.dat .bool)]
abbrev R:Type:=DOut ia io
noncomputable def X (n:Nat):Ctx:=⟨⟨tab,[F_slices_IndexFunc_Object.en n],0,[]⟩,9,bnOf 0 ia⟩
noncomputable def T:CT := .o
noncomputable def f (n:Nat)(s_:List (D_api_Object))(fc0:D_meta_census):Option R:=fRun (X n) n T Tryz.f169 ia io (s_,fc0,())
theorem e0 (n:Nat)(s_:List (D_api_Object))(fc0:D_meta_census):f n s_ fc0 =
  bnd (F_slices_IndexFunc_Object.f n s_ (fc0.1,(fc0.2.1,(fc0.2.2.1,fc0.2.2.2)))) λu1=>
  some ((hide (decide (u1.1≥(0:Int)))),(u1.2.1.1,(u1.2.1.2.1,(u1.2.1.2.2.1,u1.2.1.2.2.2))),()):=(hideF_eq _).trans (by kernel_rfl)
theorem phi (n:Nat):∀ e∈(X n).c.Φ,EntryOk Tryz.prog e:=allE_cons (mkEntry_ok (F_slices_IndexFunc_Object.ok n)) (allE_nil)
theorem ok (n:Nat):FnOk Tryz.prog 169 ia io (fRun (X n) n T Tryz.f169 ia io):=tree_ok mixed tabIs (phi n) Tryz.func169 (by kernel_rfl) rfl
noncomputable def en (n:Nat):Entry:=mkEntry 169 ia io (fRun (X n) n T Tryz.f169 ia io)
end F_slices_ContainsFunc_Object
end Go.Proofs.YtemhlkdingkjnaaGreatDoor
namespace Go.Proofs.YtemhlkdingkjnaaGreatDoor
open Go Go.Va Go.Proofs
namespace F_meta_every_Object
abbrev ia:List Ai:=[.dat (.slice T_api_Object),.fn (.bd 109) [(.p (.d T_api_State) (.p (.d (.int .i64)) (.p (.m 0 (.int .u64) .bool) (.d .unit))))]]
abbrev io:List (Nat×Oi):=[(4,.dat .bool)]
abbrev R:Type:=DOut ia io
noncomputable def X (n:Nat):Ctx:=⟨⟨tab,[F_slices_ContainsFunc_Object.en n],0,[6]⟩,9,bnOf 0 ia⟩
noncomputable def T:CT := .o
noncomputable def f (n:Nat)(list:List (D_api_Object))(goodc0:D_meta_census):Option R:=fRun (X n) n T Tryz.f108 ia io (list,goodc0,())
theorem e0 (n:Nat)(list:List (D_api_Object))(goodc0:D_meta_census):f n list goodc0 =
  bnd (F_slices_ContainsFunc_Object.f n list (goodc0.1,(goodc0.2.1,(goodc0.2.2.1,goodc0.2.2.2)))) λu1=>
  some ((!u1.1),(u1.2.1.1,(u1.2.1.2.1,(u1.2.1.2.2.1,u1.2.1.2.2.2))),()):=(hideF_eq _).trans (by kernel_rfl)
theorem phi (n:Nat):∀ e∈(X n).c.Φ,EntryOk Tryz.prog e:=allE_cons (mkEntry_ok (F_slices_ContainsFunc_Object.ok n)) (allE_nil)
theorem ok (n:Nat):FnOk Tryz.prog 108 ia io (fRun (X n) n T Tryz.f108 ia io):=tree_ok mixed tabIs (phi n) Tryz.func108 (by kernel_rfl) rfl
noncomputable def en (n:Nat):Entry:=mkEntry 108 ia io (fRun (X n) n T Tryz.f108 ia io)
end F_meta_every_Object
end Go.Proofs.YtemhlkdingkjnaaGreatDoor
namespace Go.Proofs.YtemhlkdingkjnaaGreatDoor
open Go Go.Va Go.Proofs
namespace F_cmp_isNaN_int
abbrev ia:List Ai:=[.dat (.int .i64)]
abbrev io:List (Nat×Oi):=[(2,.dat .bool)]
abbrev R:Type:=DOut ia io
noncomputable def X (n:Nat):Ctx:=⟨⟨tab,[],0,[]⟩,6,bnOf 0 ia⟩
noncomputable def T:CT := .o
noncomputable def f (n:Nat)(x_:Int):Option R:=fRun (X n) n T Tryz.f227 ia io (x_,())
theorem e0 (n:Nat)(x_:Int):f n x_ =
  some ((hide (x_ != x_)),()):=(hideF_eq _).trans (by kernel_rfl)
theorem phi (n:Nat):∀ e∈(X n).c.Φ,EntryOk Tryz.prog e:=allE_nil
theorem ok (n:Nat):FnOk Tryz.prog 227 ia io (fRun (X n) n T Tryz.f227 ia io):=tree_ok mixed tabIs (phi n) Tryz.func227 (by kernel_rfl) rfl
noncomputable def en (n:Nat):Entry:=mkEntry 227 ia io (fRun (X n) n T Tryz.f227 ia io)
end F_cmp_isNaN_int
end Go.Proofs.YtemhlkdingkjnaaGreatDoor
namespace Go.Proofs.YtemhlkdingkjnaaGreatDoor
open Go Go.Va Go.Proofs
namespace F_cmp_Compare_int
abbrev ia:List Ai:=[.dat (.int .i64),.dat (.int .i64)]
abbrev io:List (Nat×Oi):=[(4,.dat (.int .i64))]
abbrev R:Type:=DOut ia io
noncomputable def X (n:Nat):Ctx:=⟨⟨tab,[F_cmp_isNaN_int.en n],0,[]⟩,20,bnOf 0 ia⟩
noncomputable def T:CT := .o
noncomputable def f (n:Nat)(x_:Int)(y_:Int):Option R:=fRun (X n) n T Tryz.f205 ia io (x_,y_,())
theorem e0 (n:Nat) (x_:Int) (y_:Int):f n x_ y_ =
  bnd (F_cmp_isNaN_int.f n x_) λu1=>
  bnd (F_cmp_isNaN_int.f n y_) λu2=>
  bIf (u1.1) (
    bIf (u2.1) (
      some (0,())
      ) (
      some ((-1),())
      )
    ) (
    bIf (u2.1) (
      some (1,())
      ) (
      bIf ((hide (decide (x_<y_)))) (
        some ((-1),())
        ) (
        bIf ((hide (decide (x_>y_)))) (
          some (1,())
          ) (
          some (0,())
          )
        )
      )
    ):=(hideF_eq _).trans (by kernel_rfl)
theorem phi (n:Nat):∀ e∈(X n).c.Φ,EntryOk Tryz.prog e:=allE_cons (mkEntry_ok (F_cmp_isNaN_int.ok n)) (allE_nil)
theorem ok (n:Nat):FnOk Tryz.prog 205 ia io (fRun (X n) n T Tryz.f205 ia io):=tree_ok mixed tabIs (phi n) Tryz.func205 (by kernel_rfl) rfl
noncomputable def en (n:Nat):Entry:=mkEntry 205 ia io (fRun (X n) n T Tryz.f205 ia io)
end F_cmp_Compare_int
end Go.Proofs.YtemhlkdingkjnaaGreatDoor
namespace Go.Proofs.YtemhlkdingkjnaaGreatDoor
open Go Go.Va Go.Proofs
namespace F_meta_byNumber
abbrev ia:List Ai:=[.dat T_api_Part,.dat T_api_Part]
abbrev io:List (Nat×Oi):=[(4,.dat (.int .i64))]
abbrev R:Type:=DOut ia io
noncomputable def X (n:Nat):Ctx:=⟨⟨tab,[F_cmp_Compare_int.en n],0,[]⟩,10,bnOf 0 ia⟩
noncomputable def T:CT := .o
noncomputable def f (n:Nat)(a:D_api_Part)(b:D_api_Part):Option R:=fRun (X n) n T Tryz.f155 ia io (a,b,())
theorem e0 (n:Nat)(a:D_api_Part)(b:D_api_Part):f n a b =
  bnd (F_cmp_Compare_int.f n a.1 b.1) λu1=>
  some (u1.1,()):=(hideF_eq _).trans (by kernel_rfl)
theorem phi (n:Nat):∀ e∈(X n).c.Φ,EntryOk Tryz.prog e:=allE_cons (mkEntry_ok (F_cmp_Compare_int.ok n)) (allE_nil)
theorem ok (n:Nat):FnOk Tryz.prog 155 ia io (fRun (X n) n T Tryz.f155 ia io):=tree_ok mixed tabIs (phi n) Tryz.func155 (by kernel_rfl) rfl
noncomputable def en (n:Nat):Entry:=mkEntry 155 ia io (fRun (X n) n T Tryz.f155 ia io)
end F_meta_byNumber
end Go.Proofs.YtemhlkdingkjnaaGreatDoor
namespace Go.Proofs.YtemhlkdingkjnaaGreatDoor
open Go Go.Va Go.Proofs
namespace F_meta_up_Part
abbrev ia:List Ai:=[.dat (.slice T_api_Part),.fn (.fn 155) []]
abbrev io:List (Nat×Oi):=[(4,.dat .bool)]
abbrev R:Type:=DOut ia io
noncomputable def X (n:Nat):Ctx:=⟨⟨tab,[F_meta_byNumber.en n],0,[]⟩,24,bnOf 0 ia⟩
abbrev g1:List Si:=[.dat 0 (.slice T_api_Part),.clo 1 (.fn 155) [],.dat 5 (.int .i64)]
abbrev g2:List Si:=[]
noncomputable def T:CT:=(.s .o (.s (.s .o (.b (.l g1 .o))) (.r g2 .o)))
noncomputable def J1 (n:Nat)(m:Nat):(List (D_api_Part))×Int×Unit→Option R:=jL (X n) n T (bodyOf Tryz.f175) (endK ia io) g1 [1,0,1,0] [] m
noncomputable def J2 (n:Nat):Unit→Option R:=jR (X n) n T (bodyOf Tryz.f175) (endK ia io) g2 [1,1] []
noncomputable def f (n:Nat)(list:List (D_api_Part)):Option R:=fRun (X n) n T Tryz.f175 ia io (list,())
theorem e0 (n:Nat)(list:List (D_api_Part)):f n list =
  J1 n n (list,1,()):=(hideF_eq _).trans (by kernel_rfl)
theorem e1 (n m:Nat) (list:List (D_api_Part)) (i:Int):J1 n (m+1) (list,i,()) =
  bIf ((hide (decide (i<((list.length:Nat):Int))))) (
    gIf (0≤(IntKind.i64.wrap (i-(1:Int)))∧(IntKind.i64.wrap (i-(1:Int)))<((list.length:Nat):Int)) (
      gIf (0≤i∧i<((list.length:Nat):Int)) (
        bnd (F_meta_byNumber.f n (List.getD list ((IntKind.i64.wrap (i-(1:Int))).toNat) (Va.dflt T_api_Part)) (List.getD list i.toNat (Va.dflt T_api_Part))) λu1=>
        bIf ((hide (decide (u1.1≥(0:Int))))) (
          some (false,())
          ) (
          J1 n m (list,(IntKind.i64.wrap (i+(1:Int))),())
          )
        )
      )
    ) (
    J2 n (())
    ):=(hideF_eq _).trans (by kernel_rfl)
theorem e2 (n:Nat):J2 n (()) =
  some (true,()):=(hideF_eq _).trans (by kernel_rfl)
theorem phi (n:Nat):∀ e∈(X n).c.Φ,EntryOk Tryz.prog e:=allE_cons (mkEntry_ok (F_meta_byNumber.ok n)) (allE_nil)
theorem ok (n:Nat):FnOk Tryz.prog 175 ia io (fRun (X n) n T Tryz.f175 ia io):=tree_ok mixed tabIs (phi n) Tryz.func175 (by kernel_rfl) rfl
noncomputable def en (n:Nat):Entry:=mkEntry 175 ia io (fRun (X n) n T Tryz.f175 ia io)
end F_meta_up_Part
end Go.Proofs.YtemhlkdingkjnaaGreatDoor
namespace Go.Proofs.YtemhlkdingkjnaaGreatDoor
open Go Go.Va Go.Proofs
namespace F_meta_census_upload_1
abbrev ia:List Ai:=[.dat T_api_Part,.fn (.cp (.str 0)) [(.p (.d T_api_State) (.p (.d (.int .i64)) (.p (.m 0 (.int .u64) .bool) (.d .unit))))]]
abbrev io:List (Nat×Oi):=[(3,.dat .bool)]
abbrev R:Type:=DOut ia io
noncomputable def X (n:Nat):Ctx:=⟨⟨tab,[F_entry_Part.en n],0,[]⟩,17,bnOf 0 ia⟩
noncomputable def T:CT := .o
noncomputable def f (n:Nat)(p:D_api_Part)(t1c0:D_meta_census):Option R:=fRun (X n) n T Tryz.f177 ia io (p,t1c0,())
theorem e0 (n:Nat)(p:D_api_Part)(t1c0:D_meta_census):f n p t1c0 =
  bnd (F_entry_Part.f n p) λu1=>
  bIf ((!u1.1)) (
    some (true,(t1c0.1,(t1c0.2.1,(t1c0.2.2.1,t1c0.2.2.2))),())
    ) (
    some ((hide (decide (p.2.2.1≥t1c0.1.2.2.1))),(t1c0.1,(t1c0.2.1,(t1c0.2.2.1,t1c0.2.2.2))),())
    ):=(hideF_eq _).trans (by kernel_rfl)
theorem phi (n:Nat):∀ e∈(X n).c.Φ,EntryOk Tryz.prog e:=allE_cons (mkEntry_ok (F_entry_Part.ok n)) (allE_nil)
theorem ok (n:Nat):FnOk Tryz.prog 177 ia io (fRun (X n) n T Tryz.f177 ia io):=tree_ok mixed tabIs (phi n) Tryz.func177 (by kernel_rfl) rfl
noncomputable def en (n:Nat):Entry:=mkEntry 177 ia io (fRun (X n) n T Tryz.f177 ia io)
end F_meta_census_upload_1
end Go.Proofs.YtemhlkdingkjnaaGreatDoor
namespace Go.Proofs.YtemhlkdingkjnaaGreatDoor
open Go Go.Va Go.Proofs
namespace F_slices_IndexFunc_Part
abbrev ia:List Ai:=[.dat (.slice T_api_Part),.fn (.fn1 177 (.str 0)) [(.p (.d T_api_State) (.p (.d (.int .i64)) (.p (.m 0 (.int .u64) .bool) (.d .unit))))]]
abbrev io:List (Nat×Oi):=[(4,.dat (.int .i64))]
abbrev R:Type:=DOut ia io
noncomputable def X (n:Nat):Ctx:=⟨⟨tab,[F_meta_census_upload_1.en n],0,[]⟩,19,bnOf 0 ia⟩
abbrev g1:List Si:=[.dat 0 (.slice T_api_Part),.clo 1 (.fn1 177 (.str 0)) [(502000,T_meta_census,false)],.dat 7 (.int .i64),.dat 8 (.int .i64),.box 502000 (.p (.d T_api_State) (.p (.d (.int .i64)) (.p (.m 100000502000000 (.int .u64) .bool) (.d .unit))))]
abbrev g2:List Si:=[.box 502000 (.p (.d T_api_State) (.p (.d (.int .i64)) (.p (.m 100000502000000 (.int .u64) .bool) (.d .unit))))]
noncomputable def T:CT:=(.s .o (.s (.s .o (.b (.l g1 .o))) (.r g2 .o)))
noncomputable def J1 (n:Nat)(m:Nat):(List (D_api_Part))×Int×Int×D_meta_census×Unit→Option R:=jL (X n) n T (bodyOf Tryz.f218) (endK ia io) g1 [1,0,1,0] [] m
noncomputable def J2 (n:Nat):D_meta_census×Unit→Option R:=jR (X n) n T (bodyOf Tryz.f218) (endK ia io) g2 [1,1] []
noncomputable def f (n:Nat)(s_:List (D_api_Part))(fc0:D_meta_census):Option R:=fRun (X n) n T Tryz.f218 ia io (s_,fc0,())
theorem e0 (n:Nat)(s_:List (D_api_Part))(fc0:D_meta_census):f n s_ fc0 =
  J1 n n (s_,((s_.length:Nat):Int),0,(fc0.1,(fc0.2.1,(fc0.2.2.1,fc0.2.2.2))),()):=(hideF_eq _).trans (by kernel_rfl)
theorem e1 (n m:Nat) (s_:List (D_api_Part)) (t7:Int) (t8:Int) (b502000:D_meta_census):J1 n (m+1) (s_,t7,t8,b502000,()) =
  bIf ((hide (decide (t8<t7)))) (
    gIf (0≤t8∧t8<((s_.length:Nat):Int)) (
      bnd (F_meta_census_upload_1.f n (List.getD s_ t8.toNat (Va.dflt T_api_Part)) (b502000.1,(b502000.2.1,(b502000.2.2.1,b502000.2.2.2)))) λu1=>
      bIf (u1.1) (
        some (t8,(u1.2.1.1,(u1.2.1.2.1,(u1.2.1.2.2.1,u1.2.1.2.2.2))),())
        ) (
        J1 n m (s_,t7,(IntKind.i64.wrap (t8+(1:Int))),(u1.2.1.1,(u1.2.1.2.1,(u1.2.1.2.2.1,u1.2.1.2.2.2))),())
        )
      )
    ) (
    J2 n ((b502000.1,(b502000.2.1,(b502000.2.2.1,b502000.2.2.2))),())
    ):=(hideF_eq _).trans (by kernel_rfl)
theorem e2 (n:Nat)(b502000:D_meta_census):J2 n (b502000,()) =
  some ((-1),(b502000.1,(b502000.2.1,(b502000.2.2.1,b502000.2.2.2))),()):=(hideF_eq _).trans (by kernel_rfl)
theorem phi (n:Nat):∀ e∈(X n).c.Φ,EntryOk Tryz.prog e:=allE_cons (mkEntry_ok (F_meta_census_upload_1.ok n)) (allE_nil)
theorem ok (n:Nat):FnOk Tryz.prog 218 ia io (fRun (X n) n T Tryz.f218 ia io):=tree_ok mixed tabIs (phi n) Tryz.func218 (by kernel_rfl) rfl
noncomputable def en (n:Nat):Entry:=mkEntry 218 ia io (fRun (X n) n T Tryz.f218 ia io)
end F_slices_IndexFunc_Part
end Go.Proofs.YtemhlkdingkjnaaGreatDoor
namespace Go.Proofs.YtemhlkdingkjnaaGreatDoor
open Go Go.Va Go.Proofs
namespace F_slices_ContainsFunc_Part
abbrev ia:List Ai:=[.dat (.slice T_api_Part),.fn (.fn1 177 (.str 0)) [(.p (.d T_api_State) (.p (.d (.int .i64)) (.p (.m 0 (.int .u64) .bool) (.d .unit))))]]
abbrev io:List (Nat×Oi):=[(4,.dat .bool)]
abbrev R:Type:=DOut ia io
noncomputable def X (n:Nat):Ctx:=⟨⟨tab,[F_slices_IndexFunc_Part.en n],0,[]⟩,9,bnOf 0 ia⟩
noncomputable def T:CT := .o
noncomputable def f (n:Nat)(s_:List (D_api_Part))(fc0:D_meta_census):Option R:=fRun (X n) n T Tryz.f176 ia io (s_,fc0,())
theorem e0 (n:Nat)(s_:List (D_api_Part))(fc0:D_meta_census):f n s_ fc0 =
  bnd (F_slices_IndexFunc_Part.f n s_ (fc0.1,(fc0.2.1,(fc0.2.2.1,fc0.2.2.2)))) λu1=>
  some ((hide (decide (u1.1≥(0:Int)))),(u1.2.1.1,(u1.2.1.2.1,(u1.2.1.2.2.1,u1.2.1.2.2.2))),()):=(hideF_eq _).trans (by kernel_rfl)
theorem phi (n:Nat):∀ e∈(X n).c.Φ,EntryOk Tryz.prog e:=allE_cons (mkEntry_ok (F_slices_IndexFunc_Part.ok n)) (allE_nil)
theorem ok (n:Nat):FnOk Tryz.prog 176 ia io (fRun (X n) n T Tryz.f176 ia io):=tree_ok mixed tabIs (phi n) Tryz.func176 (by kernel_rfl) rfl
noncomputable def en (n:Nat):Entry:=mkEntry 176 ia io (fRun (X n) n T Tryz.f176 ia io)
end F_slices_ContainsFunc_Part
end Go.Proofs.YtemhlkdingkjnaaGreatDoor
namespace Go.Proofs.YtemhlkdingkjnaaGreatDoor
open Go Go.Va Go.Proofs
namespace F_meta_census_upload
abbrev ia:List Ai:=[.ptr (.p (.d T_api_State) (.p (.d (.int .i64)) (.p (.m 0 (.int .u64) .bool) (.d .unit)))),.dat T_api_Upload]
abbrev io:List (Nat×Oi):=[(4,.dat .bool)]
abbrev R:Type:=DOut ia io
noncomputable def X (n:Nat):Ctx:=⟨⟨tab,[F_label_Key.en n,F_meta_census_id.en n,F_tags_Sound.en n,F_meta_up_Part.en n,F_slices_ContainsFunc_Part.en n],0,[36]⟩,39,bnOf 0 ia⟩
abbrev g1:List Si:=[.ref 2 2 (.opq 0),.ref 3 3 T_api_Upload,.box 2 (.al 500000 T_meta_census),.box 3 (.d T_api_Upload),.box 500000 (.p (.d T_api_State) (.p (.d (.int .i64)) (.p (.m 100000500000000 (.int .u64) .bool) (.d .unit))))]
noncomputable def T:CT:=(.s .o (.s .o (.r g1 .o)))
noncomputable def J1 (n:Nat):Unit×D_api_Upload×D_meta_census×Unit→Option R:=jR (X n) n T (bodyOf Tryz.f111) (endK ia io) g1 [1,1] []
noncomputable def f (n:Nat)(c:D_meta_census)(u:D_api_Upload):Option R:=fRun (X n) n T Tryz.f111 ia io (c,u,())
theorem e0 (n:Nat) (c:D_meta_census) (u:D_api_Upload):f n c u =
  bnd (F_meta_census_id.f n (c.1,(c.2.1,(c.2.2.1,c.2.2.2))) u.1) λu1=>
  bIf ((!u1.1)) (
    some (false,(u1.2.1.1,(u1.2.1.2.1,(u1.2.1.2.2.1,u1.2.1.2.2.2))),())
    ) (
    bnd (F_label_Key.f n u.2.1) λu2=>
    bIf ((!u2.1)) (
      some (false,(u1.2.1.1,(u1.2.1.2.1,(u1.2.1.2.2.1,u1.2.1.2.2.2))),())
      ) (
      bnd (F_tags_Sound.f n u.2.2.1) λu3=>
      bIf ((!u3.1)) (
        some (false,(u1.2.1.1,(u1.2.1.2.1,(u1.2.1.2.2.1,u1.2.1.2.2.2))),())
        ) (
        bIf ((hide (decide (((u.2.2.2.1.length:Nat):Int)>(16:Int))))) (
          some (false,(u1.2.1.1,(u1.2.1.2.1,(u1.2.1.2.2.1,u1.2.1.2.2.2))),())
          ) (
          bnd (F_meta_up_Part.f n u.2.2.2.1) λu4=>
          bIf ((!u4.1)) (
            some (false,(u1.2.1.1,(u1.2.1.2.1,(u1.2.1.2.2.1,u1.2.1.2.2.2))),())
            ) (
            J1 n ((),u,(u1.2.1.1,(u1.2.1.2.1,(u1.2.1.2.2.1,u1.2.1.2.2.2))),())
            )
          )
        )
      )
    ):=(hideF_eq _).trans (by kernel_rfl)
theorem e1 (n:Nat)(c:Unit)(u:D_api_Upload)(b500000:D_meta_census):J1 n (c,u,b500000,()) =
  bnd (F_slices_ContainsFunc_Part.f n u.2.2.2.1 (b500000.1,(b500000.2.1,(b500000.2.2.1,b500000.2.2.2)))) λu1=>
  some ((!u1.1),(u1.2.1.1,(u1.2.1.2.1,(u1.2.1.2.2.1,u1.2.1.2.2.2))),()):=(hideF_eq _).trans (by kernel_rfl)
theorem phi (n:Nat):∀ e∈(X n).c.Φ,EntryOk Tryz.prog e:=allE_cons (mkEntry_ok (F_label_Key.ok n)) (allE_cons (mkEntry_ok (F_meta_census_id.ok n)) (allE_cons (mkEntry_ok (F_tags_Sound.ok n)) (allE_cons (mkEntry_ok (F_meta_up_Part.ok n)) (allE_cons (mkEntry_ok (F_slices_ContainsFunc_Part.ok n)) (allE_nil)))))
theorem ok (n:Nat):FnOk Tryz.prog 111 ia io (fRun (X n) n T Tryz.f111 ia io):=tree_ok mixed tabIs (phi n) Tryz.func111 (by kernel_rfl) rfl
noncomputable def en (n:Nat):Entry:=mkEntry 111 ia io (fRun (X n) n T Tryz.f111 ia io)
end F_meta_census_upload
end Go.Proofs.YtemhlkdingkjnaaGreatDoor
namespace Go.Proofs.YtemhlkdingkjnaaGreatDoor
open Go Go.Va Go.Proofs
namespace F_meta_every_Upload_1
abbrev ia:List Ai:=[.dat T_api_Upload,.fn (.cp (.bd 111)) [(.p (.d T_api_State) (.p (.d (.int .i64)) (.p (.m 0 (.int .u64) .bool) (.d .unit))))]]
abbrev io:List (Nat×Oi):=[(3,.dat .bool)]
abbrev R:Type:=DOut ia io
noncomputable def X (n:Nat):Ctx:=⟨⟨tab,[F_meta_census_upload.en n],0,[]⟩,8,bnOf 0 ia⟩
noncomputable def T:CT := .o
noncomputable def f (n:Nat)(x_:D_api_Upload)(t1c0:D_meta_census):Option R:=fRun (X n) n T Tryz.f173 ia io (x_,t1c0,())
theorem e0 (n:Nat)(x_:D_api_Upload)(t1c0:D_meta_census):f n x_ t1c0 =
  bnd (F_meta_census_upload.f n (t1c0.1,(t1c0.2.1,(t1c0.2.2.1,t1c0.2.2.2))) x_) λu1=>
  some ((!u1.1),(u1.2.1.1,(u1.2.1.2.1,(u1.2.1.2.2.1,u1.2.1.2.2.2))),()):=(hideF_eq _).trans (by kernel_rfl)
theorem phi (n:Nat):∀ e∈(X n).c.Φ,EntryOk Tryz.prog e:=allE_cons (mkEntry_ok (F_meta_census_upload.ok n)) (allE_nil)
theorem ok (n:Nat):FnOk Tryz.prog 173 ia io (fRun (X n) n T Tryz.f173 ia io):=tree_ok mixed tabIs (phi n) Tryz.func173 (by kernel_rfl) rfl
noncomputable def en (n:Nat):Entry:=mkEntry 173 ia io (fRun (X n) n T Tryz.f173 ia io)
end F_meta_every_Upload_1
end Go.Proofs.YtemhlkdingkjnaaGreatDoor
namespace Go.Proofs.YtemhlkdingkjnaaGreatDoor
open Go Go.Va Go.Proofs
namespace F_slices_IndexFunc_Upload
abbrev ia:List Ai:=[.dat (.slice T_api_Upload),.fn (.fn1 173 (.bd 111)) [(.p (.d T_api_State) (.p (.d (.int .i64)) (.p (.m 0 (.int .u64) .bool) (.d .unit))))]]
abbrev io:List (Nat×Oi):=[(4,.dat (.int .i64))]
abbrev R:Type:=DOut ia io
noncomputable def X (n:Nat):Ctx:=⟨⟨tab,[F_meta_every_Upload_1.en n],0,[]⟩,19,bnOf 0 ia⟩
abbrev g1:List Si:=[.dat 0 (.slice T_api_Upload),.clo 1 (.fn1 173 (.bd 111)) [(502000,T_meta_census,false)],.dat 7 (.int .i64),.dat 8 (.int .i64),.box 502000 (.p (.d T_api_State) (.p (.d (.int .i64)) (.p (.m 100000502000000 (.int .u64) .bool) (.d .unit))))]
abbrev g2:List Si:=[.box 502000 (.p (.d T_api_State) (.p (.d (.int .i64)) (.p (.m 100000502000000 (.int .u64) .bool) (.d .unit))))]
noncomputable def T:CT:=(.s .o (.s (.s .o (.b (.l g1 .o))) (.r g2 .o)))
noncomputable def J1 (n:Nat)(m:Nat):(List (D_api_Upload))×Int×Int×D_meta_census×Unit→Option R:=jL (X n) n T (bodyOf Tryz.f216) (endK ia io) g1 [1,0,1,0] [] m
noncomputable def J2 (n:Nat):D_meta_census×Unit→Option R:=jR (X n) n T (bodyOf Tryz.f216) (endK ia io) g2 [1,1] []
noncomputable def f (n:Nat)(s_:List (D_api_Upload))(fc0:D_meta_census):Option R:=fRun (X n) n T Tryz.f216 ia io (s_,fc0,())
theorem e0 (n:Nat)(s_:List (D_api_Upload))(fc0:D_meta_census):f n s_ fc0 =
  J1 n n (s_,((s_.length:Nat):Int),0,(fc0.1,(fc0.2.1,(fc0.2.2.1,fc0.2.2.2))),()):=(hideF_eq _).trans (by kernel_rfl)
theorem e1 (n m:Nat) (s_:List (D_api_Upload)) (t7:Int) (t8:Int) (b502000:D_meta_census):J1 n (m+1) (s_,t7,t8,b502000,()) =
  bIf ((hide (decide (t8<t7)))) (
    gIf (0≤t8∧t8<((s_.length:Nat):Int)) (
      bnd (F_meta_every_Upload_1.f n (List.getD s_ t8.toNat (Va.dflt T_api_Upload)) (b502000.1,(b502000.2.1,(b502000.2.2.1,b502000.2.2.2)))) λu1=>
      bIf (u1.1) (
        some (t8,(u1.2.1.1,(u1.2.1.2.1,(u1.2.1.2.2.1,u1.2.1.2.2.2))),())
        ) (
        J1 n m (s_,t7,(IntKind.i64.wrap (t8+(1:Int))),(u1.2.1.1,(u1.2.1.2.1,(u1.2.1.2.2.1,u1.2.1.2.2.2))),())
        )
      )
    ) (
    J2 n ((b502000.1,(b502000.2.1,(b502000.2.2.1,b502000.2.2.2))),())
    ):=(hideF_eq _).trans (by kernel_rfl)
theorem e2 (n:Nat)(b502000:D_meta_census):J2 n (b502000,()) =
  some ((-1),(b502000.1,(b502000.2.1,(b502000.2.2.1,b502000.2.2.2))),()):=(hideF_eq _).trans (by kernel_rfl)
theorem phi (n:Nat):∀ e∈(X n).c.Φ,EntryOk Tryz.prog e:=allE_cons (mkEntry_ok (F_meta_every_Upload_1.ok n)) (allE_nil)
theorem ok (n:Nat):FnOk Tryz.prog 216 ia io (fRun (X n) n T Tryz.f216 ia io):=tree_ok mixed tabIs (phi n) Tryz.func216 (by kernel_rfl) rfl
noncomputable def en (n:Nat):Entry:=mkEntry 216 ia io (fRun (X n) n T Tryz.f216 ia io)
end F_slices_IndexFunc_Upload
end Go.Proofs.YtemhlkdingkjnaaGreatDoor
namespace Go.Proofs.YtemhlkdingkjnaaGreatDoor
open Go Go.Va Go.Proofs
namespace F_slices_ContainsFunc_Upload
abbrev ia:List Ai:=[.dat (.slice T_api_Upload),.fn (.fn1 173 (.bd 111)) [(.p (.d T_api_State) (.p (.d (.int .i64)) (.p (.m 0 (.int .u64) .bool) (.d .unit))))]]
abbrev io:List (Nat×Oi):=[(4,.dat .bool)]
abbrev R:Type:=DOut ia io
noncomputable def X (n:Nat):Ctx:=⟨⟨tab,[F_slices_IndexFunc_Upload.en n],0,[]⟩,9,bnOf 0 ia⟩
noncomputable def T:CT := .o
noncomputable def f (n:Nat)(s_:List (D_api_Upload))(fc0:D_meta_census):Option R:=fRun (X n) n T Tryz.f172 ia io (s_,fc0,())
theorem e0 (n:Nat)(s_:List (D_api_Upload))(fc0:D_meta_census):f n s_ fc0 =
  bnd (F_slices_IndexFunc_Upload.f n s_ (fc0.1,(fc0.2.1,(fc0.2.2.1,fc0.2.2.2)))) λu1=>
  some ((hide (decide (u1.1≥(0:Int)))),(u1.2.1.1,(u1.2.1.2.1,(u1.2.1.2.2.1,u1.2.1.2.2.2))),()):=(hideF_eq _).trans (by kernel_rfl)
theorem phi (n:Nat):∀ e∈(X n).c.Φ,EntryOk Tryz.prog e:=allE_cons (mkEntry_ok (F_slices_IndexFunc_Upload.ok n)) (allE_nil)
theorem ok (n:Nat):FnOk Tryz.prog 172 ia io (fRun (X n) n T Tryz.f172 ia io):=tree_ok mixed tabIs (phi n) Tryz.func172 (by kernel_rfl) rfl
noncomputable def en (n:Nat):Entry:=mkEntry 172 ia io (fRun (X n) n T Tryz.f172 ia io)
end F_slices_ContainsFunc_Upload
end Go.Proofs.YtemhlkdingkjnaaGreatDoor
namespace Go.Proofs.YtemhlkdingkjnaaGreatDoor
open Go Go.Va Go.Proofs
namespace F_meta_every_Upload
abbrev ia:List Ai:=[.dat (.slice T_api_Upload),.fn (.bd 111) [(.p (.d T_api_State) (.p (.d (.int .i64)) (.p (.m 0 (.int .u64) .bool) (.d .unit))))]]
abbrev io:List (Nat×Oi):=[(4,.dat .bool)]
abbrev R:Type:=DOut ia io
noncomputable def X (n:Nat):Ctx:=⟨⟨tab,[F_slices_ContainsFunc_Upload.en n],0,[6]⟩,9,bnOf 0 ia⟩
noncomputable def T:CT := .o
noncomputable def f (n:Nat)(list:List (D_api_Upload))(goodc0:D_meta_census):Option R:=fRun (X n) n T Tryz.f110 ia io (list,goodc0,())
theorem e0 (n:Nat)(list:List (D_api_Upload))(goodc0:D_meta_census):f n list goodc0 =
  bnd (F_slices_ContainsFunc_Upload.f n list (goodc0.1,(goodc0.2.1,(goodc0.2.2.1,goodc0.2.2.2)))) λu1=>
  some ((!u1.1),(u1.2.1.1,(u1.2.1.2.1,(u1.2.1.2.2.1,u1.2.1.2.2.2))),()):=(hideF_eq _).trans (by kernel_rfl)
theorem phi (n:Nat):∀ e∈(X n).c.Φ,EntryOk Tryz.prog e:=allE_cons (mkEntry_ok (F_slices_ContainsFunc_Upload.ok n)) (allE_nil)
theorem ok (n:Nat):FnOk Tryz.prog 110 ia io (fRun (X n) n T Tryz.f110 ia io):=tree_ok mixed tabIs (phi n) Tryz.func110 (by kernel_rfl) rfl
noncomputable def en (n:Nat):Entry:=mkEntry 110 ia io (fRun (X n) n T Tryz.f110 ia io)
end F_meta_every_Upload
end Go.Proofs.YtemhlkdingkjnaaGreatDoor
namespace Go.Proofs.YtemhlkdingkjnaaGreatDoor
open Go Go.Va Go.Proofs
namespace F_cmp_isNaN_string
abbrev ia:List Ai:=[.dat .str]
abbrev io:List (Nat×Oi):=[(2,.dat .bool)]
abbrev R:Type:=DOut ia io
noncomputable def X (n:Nat):Ctx:=⟨⟨tab,[],0,[]⟩,6,bnOf 0 ia⟩
noncomputable def T:CT := .o
noncomputable def f (n:Nat)(x_:ByteArray):Option R:=fRun (X n) n T Tryz.f112 ia io (x_,())
theorem e0 (n:Nat)(x_:ByteArray):f n x_ =
  some ((hide (!eqS x_ x_)),()):=(hideF_eq _).trans (by kernel_rfl)
theorem phi (n:Nat):∀ e∈(X n).c.Φ,EntryOk Tryz.prog e:=allE_nil
theorem ok (n:Nat):FnOk Tryz.prog 112 ia io (fRun (X n) n T Tryz.f112 ia io):=tree_ok mixed tabIs (phi n) Tryz.func112 (by kernel_rfl) rfl
noncomputable def en (n:Nat):Entry:=mkEntry 112 ia io (fRun (X n) n T Tryz.f112 ia io)
end F_cmp_isNaN_string
end Go.Proofs.YtemhlkdingkjnaaGreatDoor
namespace Go.Proofs.YtemhlkdingkjnaaGreatDoor
open Go Go.Va Go.Proofs
namespace F_cmp_Compare_string
abbrev ia:List Ai:=[.dat .str,.dat .str]
abbrev io:List (Nat×Oi):=[(4,.dat (.int .i64))]
abbrev R:Type:=DOut ia io
noncomputable def X (n:Nat):Ctx:=⟨⟨tab,[F_cmp_isNaN_string.en n],0,[]⟩,20,bnOf 0 ia⟩
noncomputable def T:CT := .o
noncomputable def f (n:Nat)(x_:ByteArray)(y_:ByteArray):Option R:=fRun (X n) n T Tryz.f69 ia io (x_,y_,())
theorem e0 (n:Nat) (x_:ByteArray) (y_:ByteArray):f n x_ y_ =
  bnd (F_cmp_isNaN_string.f n x_) λu1=>
  bnd (F_cmp_isNaN_string.f n y_) λu2=>
  bIf (u1.1) (
    bIf (u2.1) (
      some (0,())
      ) (
      some ((-1),())
      )
    ) (
    bIf (u2.1) (
      some (1,())
      ) (
      bIf ((hide (ltS x_ y_))) (
        some ((-1),())
        ) (
        bIf ((hide (!(ltS x_ y_||eqS x_ y_)))) (
          some (1,())
          ) (
          some (0,())
          )
        )
      )
    ):=(hideF_eq _).trans (by kernel_rfl)
theorem phi (n:Nat):∀ e∈(X n).c.Φ,EntryOk Tryz.prog e:=allE_cons (mkEntry_ok (F_cmp_isNaN_string.ok n)) (allE_nil)
theorem ok (n:Nat):FnOk Tryz.prog 69 ia io (fRun (X n) n T Tryz.f69 ia io):=tree_ok mixed tabIs (phi n) Tryz.func69 (by kernel_rfl) rfl
noncomputable def en (n:Nat):Entry:=mkEntry 69 ia io (fRun (X n) n T Tryz.f69 ia io)
end F_cmp_Compare_string
end Go.Proofs.YtemhlkdingkjnaaGreatDoor
namespace Go.Proofs.YtemhlkdingkjnaaGreatDoor
open Go Go.Va Go.Proofs
namespace F_meta_byKey
abbrev ia:List Ai:=[.dat T_api_Object,.dat T_api_Object]
abbrev io:List (Nat×Oi):=[(4,.dat (.int .i64))]
abbrev R:Type:=DOut ia io
noncomputable def X (n:Nat):Ctx:=⟨⟨tab,[F_cmp_Compare_string.en n],0,[]⟩,10,bnOf 0 ia⟩
noncomputable def T:CT := .o
noncomputable def f (n:Nat)(a:D_api_Object)(b:D_api_Object):Option R:=fRun (X n) n T Tryz.f36 ia io (a,b,())
theorem e0 (n:Nat)(a:D_api_Object)(b:D_api_Object):f n a b =
  bnd (F_cmp_Compare_string.f n a.1 b.1) λu1=>
  some (u1.1,()):=(hideF_eq _).trans (by kernel_rfl)
theorem phi (n:Nat):∀ e∈(X n).c.Φ,EntryOk Tryz.prog e:=allE_cons (mkEntry_ok (F_cmp_Compare_string.ok n)) (allE_nil)
theorem ok (n:Nat):FnOk Tryz.prog 36 ia io (fRun (X n) n T Tryz.f36 ia io):=tree_ok mixed tabIs (phi n) Tryz.func36 (by kernel_rfl) rfl
noncomputable def en (n:Nat):Entry:=mkEntry 36 ia io (fRun (X n) n T Tryz.f36 ia io)
end F_meta_byKey
end Go.Proofs.YtemhlkdingkjnaaGreatDoor
namespace Go.Proofs.YtemhlkdingkjnaaGreatDoor
open Go Go.Va Go.Proofs
namespace F_meta_up_Object
abbrev ia:List Ai:=[.dat (.slice T_api_Object),.fn (.fn 36) []]
abbrev io:List (Nat×Oi):=[(4,.dat .bool)]
abbrev R:Type:=DOut ia io
noncomputable def X (n:Nat):Ctx:=⟨⟨tab,[F_meta_byKey.en n],0,[]⟩,24,bnOf 0 ia⟩
abbrev g1:List Si:=[.dat 0 (.slice T_api_Object),.clo 1 (.fn 36) [],.dat 5 (.int .i64)]
abbrev g2:List Si:=[]
noncomputable def T:CT:=(.s .o (.s (.s .o (.b (.l g1 .o))) (.r g2 .o)))
noncomputable def J1 (n:Nat)(m:Nat):(List (D_api_Object))×Int×Unit→Option R:=jL (X n) n T (bodyOf Tryz.f105) (endK ia io) g1 [1,0,1,0] [] m
noncomputable def J2 (n:Nat):Unit→Option R:=jR (X n) n T (bodyOf Tryz.f105) (endK ia io) g2 [1,1] []
noncomputable def f (n:Nat)(list:List (D_api_Object)):Option R:=fRun (X n) n T Tryz.f105 ia io (list,())
theorem e0 (n:Nat)(list:List (D_api_Object)):f n list =
  J1 n n (list,1,()):=(hideF_eq _).trans (by kernel_rfl)
theorem e1 (n m:Nat) (list:List (D_api_Object)) (i:Int):J1 n (m+1) (list,i,()) =
  bIf ((hide (decide (i<((list.length:Nat):Int))))) (
    gIf (0≤(IntKind.i64.wrap (i-(1:Int)))∧(IntKind.i64.wrap (i-(1:Int)))<((list.length:Nat):Int)) (
      gIf (0≤i∧i<((list.length:Nat):Int)) (
        bnd (F_meta_byKey.f n (List.getD list ((IntKind.i64.wrap (i-(1:Int))).toNat) (Va.dflt T_api_Object)) (List.getD list i.toNat (Va.dflt T_api_Object))) λu1=>
        bIf ((hide (decide (u1.1≥(0:Int))))) (
          some (false,())
          ) (
          J1 n m (list,(IntKind.i64.wrap (i+(1:Int))),())
          )
        )
      )
    ) (
    J2 n (())
    ):=(hideF_eq _).trans (by kernel_rfl)
theorem e2 (n:Nat):J2 n (()) =
  some (true,()):=(hideF_eq _).trans (by kernel_rfl)
theorem phi (n:Nat):∀ e∈(X n).c.Φ,EntryOk Tryz.prog e:=allE_cons (mkEntry_ok (F_meta_byKey.ok n)) (allE_nil)
theorem ok (n:Nat):FnOk Tryz.prog 105 ia io (fRun (X n) n T Tryz.f105 ia io):=tree_ok mixed tabIs (phi n) Tryz.func105 (by kernel_rfl) rfl
noncomputable def en (n:Nat):Entry:=mkEntry 105 ia io (fRun (X n) n T Tryz.f105 ia io)
end F_meta_up_Object
end Go.Proofs.YtemhlkdingkjnaaGreatDoor
namespace Go.Proofs.YtemhlkdingkjnaaGreatDoor
open Go Go.Va Go.Proofs
namespace F_cmp_isNaN_uint64
abbrev ia:List Ai:=[.dat (.int .u64)]
abbrev io:List (Nat×Oi):=[(2,.dat .bool)]
abbrev R:Type:=DOut ia io
noncomputable def X (n:Nat):Ctx:=⟨⟨tab,[],0,[]⟩,6,bnOf 0 ia⟩
noncomputable def T:CT := .o
noncomputable def f (n:Nat)(x_:Int):Option R:=fRun (X n) n T Tryz.f91 ia io (x_,())
theorem e0 (n:Nat)(x_:Int):f n x_ =
  some ((hide (x_ != x_)),()):=(hideF_eq _).trans (by kernel_rfl)
theorem phi (n:Nat):∀ e∈(X n).c.Φ,EntryOk Tryz.prog e:=allE_nil
theorem ok (n:Nat):FnOk Tryz.prog 91 ia io (fRun (X n) n T Tryz.f91 ia io):=tree_ok mixed tabIs (phi n) Tryz.func91 (by kernel_rfl) rfl
noncomputable def en (n:Nat):Entry:=mkEntry 91 ia io (fRun (X n) n T Tryz.f91 ia io)
end F_cmp_isNaN_uint64
end Go.Proofs.YtemhlkdingkjnaaGreatDoor
namespace Go.Proofs.YtemhlkdingkjnaaGreatDoor
open Go Go.Va Go.Proofs
namespace F_cmp_Compare_uint64
abbrev ia:List Ai:=[.dat (.int .u64),.dat (.int .u64)]
abbrev io:List (Nat×Oi):=[(4,.dat (.int .i64))]
abbrev R:Type:=DOut ia io
noncomputable def X (n:Nat):Ctx:=⟨⟨tab,[F_cmp_isNaN_uint64.en n],0,[]⟩,20,bnOf 0 ia⟩
noncomputable def T:CT := .o
noncomputable def f (n:Nat)(x_:Int)(y_:Int):Option R:=fRun (X n) n T Tryz.f56 ia io (x_,y_,())
theorem e0 (n:Nat) (x_:Int) (y_:Int):f n x_ y_ =
  bnd (F_cmp_isNaN_uint64.f n x_) λu1=>
  bnd (F_cmp_isNaN_uint64.f n y_) λu2=>
  bIf (u1.1) (
    bIf (u2.1) (
      some (0,())
      ) (
      some ((-1),())
      )
    ) (
    bIf (u2.1) (
      some (1,())
      ) (
      bIf ((hide (decide (x_<y_)))) (
        some ((-1),())
        ) (
        bIf ((hide (decide (x_>y_)))) (
          some (1,())
          ) (
          some (0,())
          )
        )
      )
    ):=(hideF_eq _).trans (by kernel_rfl)
theorem phi (n:Nat):∀ e∈(X n).c.Φ,EntryOk Tryz.prog e:=allE_cons (mkEntry_ok (F_cmp_isNaN_uint64.ok n)) (allE_nil)
theorem ok (n:Nat):FnOk Tryz.prog 56 ia io (fRun (X n) n T Tryz.f56 ia io):=tree_ok mixed tabIs (phi n) Tryz.func56 (by kernel_rfl) rfl
noncomputable def en (n:Nat):Entry:=mkEntry 56 ia io (fRun (X n) n T Tryz.f56 ia io)
end F_cmp_Compare_uint64
end Go.Proofs.YtemhlkdingkjnaaGreatDoor
namespace Go.Proofs.YtemhlkdingkjnaaGreatDoor
open Go Go.Va Go.Proofs
namespace F_meta_byID
abbrev ia:List Ai:=[.dat T_api_Upload,.dat T_api_Upload]
abbrev io:List (Nat×Oi):=[(4,.dat (.int .i64))]
abbrev R:Type:=DOut ia io
noncomputable def X (n:Nat):Ctx:=⟨⟨tab,[F_cmp_Compare_uint64.en n],0,[]⟩,10,bnOf 0 ia⟩
noncomputable def T:CT := .o
noncomputable def f (n:Nat)(a:D_api_Upload)(b:D_api_Upload):Option R:=fRun (X n) n T Tryz.f107 ia io (a,b,())
theorem e0 (n:Nat)(a:D_api_Upload)(b:D_api_Upload):f n a b =
  bnd (F_cmp_Compare_uint64.f n a.1 b.1) λu1=>
  some (u1.1,()):=(hideF_eq _).trans (by kernel_rfl)
theorem phi (n:Nat):∀ e∈(X n).c.Φ,EntryOk Tryz.prog e:=allE_cons (mkEntry_ok (F_cmp_Compare_uint64.ok n)) (allE_nil)
theorem ok (n:Nat):FnOk Tryz.prog 107 ia io (fRun (X n) n T Tryz.f107 ia io):=tree_ok mixed tabIs (phi n) Tryz.func107 (by kernel_rfl) rfl
noncomputable def en (n:Nat):Entry:=mkEntry 107 ia io (fRun (X n) n T Tryz.f107 ia io)
end F_meta_byID
end Go.Proofs.YtemhlkdingkjnaaGreatDoor
namespace Go.Proofs.YtemhlkdingkjnaaGreatDoor
open Go Go.Va Go.Proofs
namespace F_meta_up_Upload
abbrev ia:List Ai:=[.dat (.slice T_api_Upload),.fn (.fn 107) []]
abbrev io:List (Nat×Oi):=[(4,.dat .bool)]
abbrev R:Type:=DOut ia io
noncomputable def X (n:Nat):Ctx:=⟨⟨tab,[F_meta_byID.en n],0,[]⟩,24,bnOf 0 ia⟩
abbrev g1:List Si:=[.dat 0 (.slice T_api_Upload),.clo 1 (.fn 107) [],.dat 5 (.int .i64)]
abbrev g2:List Si:=[]
noncomputable def T:CT:=(.s .o (.s (.s .o (.b (.l g1 .o))) (.r g2 .o)))
noncomputable def J1 (n:Nat)(m:Nat):(List (D_api_Upload))×Int×Unit→Option R:=jL (X n) n T (bodyOf Tryz.f106) (endK ia io) g1 [1,0,1,0] [] m
noncomputable def J2 (n:Nat):Unit→Option R:=jR (X n) n T (bodyOf Tryz.f106) (endK ia io) g2 [1,1] []
noncomputable def f (n:Nat)(list:List (D_api_Upload)):Option R:=fRun (X n) n T Tryz.f106 ia io (list,())
theorem e0 (n:Nat)(list:List (D_api_Upload)):f n list =
  J1 n n (list,1,()):=(hideF_eq _).trans (by kernel_rfl)
theorem e1 (n m:Nat) (list:List (D_api_Upload)) (i:Int):J1 n (m+1) (list,i,()) =
  bIf ((hide (decide (i<((list.length:Nat):Int))))) (
    gIf (0≤(IntKind.i64.wrap (i-(1:Int)))∧(IntKind.i64.wrap (i-(1:Int)))<((list.length:Nat):Int)) (
      gIf (0≤i∧i<((list.length:Nat):Int)) (
        bnd (F_meta_byID.f n (List.getD list ((IntKind.i64.wrap (i-(1:Int))).toNat) (Va.dflt T_api_Upload)) (List.getD list i.toNat (Va.dflt T_api_Upload))) λu1=>
        bIf ((hide (decide (u1.1≥(0:Int))))) (
          some (false,())
          ) (
          J1 n m (list,(IntKind.i64.wrap (i+(1:Int))),())
          )
        )
      )
    ) (
    J2 n (())
    ):=(hideF_eq _).trans (by kernel_rfl)
theorem e2 (n:Nat):J2 n (()) =
  some (true,()):=(hideF_eq _).trans (by kernel_rfl)
theorem phi (n:Nat):∀ e∈(X n).c.Φ,EntryOk Tryz.prog e:=allE_cons (mkEntry_ok (F_meta_byID.ok n)) (allE_nil)
theorem ok (n:Nat):FnOk Tryz.prog 106 ia io (fRun (X n) n T Tryz.f106 ia io):=tree_ok mixed tabIs (phi n) Tryz.func106 (by kernel_rfl) rfl
noncomputable def en (n:Nat):Entry:=mkEntry 106 ia io (fRun (X n) n T Tryz.f106 ia io)
end F_meta_up_Upload
end Go.Proofs.YtemhlkdingkjnaaGreatDoor
namespace Go.Proofs.YtemhlkdingkjnaaGreatDoor
open Go Go.Va Go.Proofs
namespace F_meta_census_bucket
abbrev ia:List Ai:=[.ptr (.p (.d T_api_State) (.p (.d (.int .i64)) (.p (.m 0 (.int .u64) .bool) (.d .unit)))),.dat T_api_Bucket]
abbrev io:List (Nat×Oi):=[(4,.dat .bool)]
abbrev R:Type:=DOut ia io
noncomputable def X (n:Nat):Ctx:=⟨⟨tab,[F_label_Bucket.en n,F_mode_Good.en n,F_entry_Rules.en n,F_entry_Grants.en n,F_meta_up_Object.en n,F_meta_up_Upload.en n,F_meta_every_Object.en n,F_meta_every_Upload.en n],0,[]⟩,55,bnOf 0 ia⟩
abbrev g1:List Si:=[.ref 0 500000 T_meta_census,.ref 3 3 T_api_Bucket,.box 3 (.d T_api_Bucket),.box 500000 (.p (.d T_api_State) (.p (.d (.int .i64)) (.p (.m 100000500000000 (.int .u64) .bool) (.d .unit))))]
abbrev g2:List Si:=[.ref 0 500000 T_meta_census,.ref 3 3 T_api_Bucket,.box 3 (.d T_api_Bucket),.box 500000 (.p (.d T_api_State) (.p (.d (.int .i64)) (.p (.m 100000500000000 (.int .u64) .bool) (.d .unit))))]
noncomputable def T:CT:=(.s .o (.s .o (.r g1 (.s .o (.r g2 .o)))))
noncomputable def J1 (n:Nat):D_api_Bucket×D_meta_census×Unit→Option R:=jR (X n) n T (bodyOf Tryz.f67) (endK ia io) g1 [1,1] []
noncomputable def J2 (n:Nat):D_api_Bucket×D_meta_census×Unit→Option R:=jR (X n) n T (bodyOf Tryz.f67) (endK ia io) g2 [1,1,1] []
noncomputable def f (n:Nat)(c:D_meta_census)(b:D_api_Bucket):Option R:=fRun (X n) n T Tryz.f67 ia io (c,b,())
theorem e0 (n:Nat) (c:D_meta_census) (b:D_api_Bucket):f n c b =
  bnd (F_label_Bucket.f n b.1) λu1=>
  bIf ((!u1.1)) (
    some (false,(c.1,(c.2.1,(c.2.2.1,c.2.2.2))),())
    ) (
    bnd (F_mode_Good.f n b.2.1) λu2=>
    bIf ((!u2.1)) (
      some (false,(c.1,(c.2.1,(c.2.2.1,c.2.2.2))),())
      ) (
      bnd (F_entry_Rules.f n b.2.2.1) λu3=>
      bIf ((!u3.1)) (
        some (false,(c.1,(c.2.1,(c.2.2.1,c.2.2.2))),())
        ) (
        bnd (F_entry_Grants.f n b.2.2.2.1) λu4=>
        bIf ((!u4.1)) (
          some (false,(c.1,(c.2.1,(c.2.2.1,c.2.2.2))),())
          ) (
          J1 n (b,(c.1,(c.2.1,(c.2.2.1,c.2.2.2))),())
          )
        )
      )
    ):=(hideF_eq _).trans (by kernel_rfl)
theorem e1 (n:Nat) (b:D_api_Bucket) (c:D_meta_census):J1 n (b,c,()) =
  bIf ((hide (decide (((b.2.2.2.2.2.1.length:Nat):Int)>(4:Int))))) (
    some (false,(c.1,(c.2.1,(c.2.2.1,c.2.2.2))),())
    ) (
    bnd (F_meta_up_Object.f n b.2.2.2.2.1) λu1=>
    bIf ((!u1.1)) (
      some (false,(c.1,(c.2.1,(c.2.2.1,c.2.2.2))),())
      ) (
      bnd (F_meta_up_Upload.f n b.2.2.2.2.2.1) λu2=>
      bIf ((!u2.1)) (
        some (false,(c.1,(c.2.1,(c.2.2.1,c.2.2.2))),())
        ) (
        J2 n (b,(c.1,(c.2.1,(c.2.2.1,c.2.2.2))),())
        )
      )
    ):=(hideF_eq _).trans (by kernel_rfl)
theorem e2 (n:Nat)(b:D_api_Bucket)(c:D_meta_census):J2 n (b,c,()) =
  bnd (F_meta_every_Object.f n b.2.2.2.2.1 (c.1,(c.2.1,(c.2.2.1,c.2.2.2)))) λu1=>
  bIf (u1.1) (
    bnd (F_meta_every_Upload.f n b.2.2.2.2.2.1 (u1.2.1.1,(u1.2.1.2.1,(u1.2.1.2.2.1,u1.2.1.2.2.2)))) λu2=>
    some (u2.1,(u2.2.1.1,(u2.2.1.2.1,(u2.2.1.2.2.1,u2.2.1.2.2.2))),())
    ) (
    some (false,(u1.2.1.1,(u1.2.1.2.1,(u1.2.1.2.2.1,u1.2.1.2.2.2))),())
    ):=(hideF_eq _).trans (by kernel_rfl)
theorem phi (n:Nat):∀ e∈(X n).c.Φ,EntryOk Tryz.prog e:=allE_cons (mkEntry_ok (F_label_Bucket.ok n)) (allE_cons (mkEntry_ok (F_mode_Good.ok n)) (allE_cons (mkEntry_ok (F_entry_Rules.ok n)) (allE_cons (mkEntry_ok (F_entry_Grants.ok n)) (allE_cons (mkEntry_ok (F_meta_up_Object.ok n)) (allE_cons (mkEntry_ok (F_meta_up_Upload.ok n)) (allE_cons (mkEntry_ok (F_meta_every_Object.ok n)) (allE_cons (mkEntry_ok (F_meta_every_Upload.ok n)) (allE_nil))))))))
theorem ok (n:Nat):FnOk Tryz.prog 67 ia io (fRun (X n) n T Tryz.f67 ia io):=tree_ok mixed tabIs (phi n) Tryz.func67 (by kernel_rfl) rfl
noncomputable def en (n:Nat):Entry:=mkEntry 67 ia io (fRun (X n) n T Tryz.f67 ia io)
end F_meta_census_bucket
end Go.Proofs.YtemhlkdingkjnaaGreatDoor
namespace Go.Proofs.YtemhlkdingkjnaaGreatDoor
open Go Go.Va Go.Proofs
namespace F_meta_every_Bucket_1
abbrev ia:List Ai:=[.dat T_api_Bucket,.fn (.cp (.bd 67)) [(.p (.d T_api_State) (.p (.d (.int .i64)) (.p (.m 0 (.int .u64) .bool) (.d .unit))))]]
abbrev io:List (Nat×Oi):=[(3,.dat .bool)]
abbrev R:Type:=DOut ia io
noncomputable def X (n:Nat):Ctx:=⟨⟨tab,[F_meta_census_bucket.en n],0,[]⟩,8,bnOf 0 ia⟩
noncomputable def T:CT := .o
noncomputable def f (n:Nat)(x_:D_api_Bucket)(t1c0:D_meta_census):Option R:=fRun (X n) n T Tryz.f100 ia io (x_,t1c0,())
theorem e0 (n:Nat)(x_:D_api_Bucket)(t1c0:D_meta_census):f n x_ t1c0 =
  bnd (F_meta_census_bucket.f n (t1c0.1,(t1c0.2.1,(t1c0.2.2.1,t1c0.2.2.2))) x_) λu1=>
  some ((!u1.1),(u1.2.1.1,(u1.2.1.2.1,(u1.2.1.2.2.1,u1.2.1.2.2.2))),()):=(hideF_eq _).trans (by kernel_rfl)
theorem phi (n:Nat):∀ e∈(X n).c.Φ,EntryOk Tryz.prog e:=allE_cons (mkEntry_ok (F_meta_census_bucket.ok n)) (allE_nil)
theorem ok (n:Nat):FnOk Tryz.prog 100 ia io (fRun (X n) n T Tryz.f100 ia io):=tree_ok mixed tabIs (phi n) Tryz.func100 (by kernel_rfl) rfl
noncomputable def en (n:Nat):Entry:=mkEntry 100 ia io (fRun (X n) n T Tryz.f100 ia io)
end F_meta_every_Bucket_1
end Go.Proofs.YtemhlkdingkjnaaGreatDoor
namespace Go.Proofs.YtemhlkdingkjnaaGreatDoor
open Go Go.Va Go.Proofs
namespace F_slices_IndexFunc_Bucket
abbrev ia:List Ai:=[.dat (.slice T_api_Bucket),.fn (.fn1 100 (.bd 67)) [(.p (.d T_api_State) (.p (.d (.int .i64)) (.p (.m 0 (.int .u64) .bool) (.d .unit))))]]
abbrev io:List (Nat×Oi):=[(4,.dat (.int .i64))]
abbrev R:Type:=DOut ia io
noncomputable def X (n:Nat):Ctx:=⟨⟨tab,[F_meta_every_Bucket_1.en n],0,[]⟩,19,bnOf 0 ia⟩
abbrev g1:List Si:=[.dat 0 (.slice T_api_Bucket),.clo 1 (.fn1 100 (.bd 67)) [(502000,T_meta_census,false)],.dat 7 (.int .i64),.dat 8 (.int .i64),.box 502000 (.p (.d T_api_State) (.p (.d (.int .i64)) (.p (.m 100000502000000 (.int .u64) .bool) (.d .unit))))]
abbrev g2:List Si:=[.box 502000 (.p (.d T_api_State) (.p (.d (.int .i64)) (.p (.m 100000502000000 (.int .u64) .bool) (.d .unit))))]
noncomputable def T:CT:=(.s .o (.s (.s .o (.b (.l g1 .o))) (.r g2 .o)))
noncomputable def J1 (n:Nat)(m:Nat):(List (D_api_Bucket))×Int×Int×D_meta_census×Unit→Option R:=jL (X n) n T (bodyOf Tryz.f160) (endK ia io) g1 [1,0,1,0] [] m
noncomputable def J2 (n:Nat):D_meta_census×Unit→Option R:=jR (X n) n T (bodyOf Tryz.f160) (endK ia io) g2 [1,1] []
noncomputable def f (n:Nat)(s_:List (D_api_Bucket))(fc0:D_meta_census):Option R:=fRun (X n) n T Tryz.f160 ia io (s_,fc0,())
theorem e0 (n:Nat)(s_:List (D_api_Bucket))(fc0:D_meta_census):f n s_ fc0 =
  J1 n n (s_,((s_.length:Nat):Int),0,(fc0.1,(fc0.2.1,(fc0.2.2.1,fc0.2.2.2))),()):=(hideF_eq _).trans (by kernel_rfl)
theorem e1 (n m:Nat) (s_:List (D_api_Bucket)) (t7:Int) (t8:Int) (b502000:D_meta_census):J1 n (m+1) (s_,t7,t8,b502000,()) =
  bIf ((hide (decide (t8<t7)))) (
    gIf (0≤t8∧t8<((s_.length:Nat):Int)) (
      bnd (F_meta_every_Bucket_1.f n (List.getD s_ t8.toNat (Va.dflt T_api_Bucket)) (b502000.1,(b502000.2.1,(b502000.2.2.1,b502000.2.2.2)))) λu1=>
      bIf (u1.1) (
        some (t8,(u1.2.1.1,(u1.2.1.2.1,(u1.2.1.2.2.1,u1.2.1.2.2.2))),())
        ) (
        J1 n m (s_,t7,(IntKind.i64.wrap (t8+(1:Int))),(u1.2.1.1,(u1.2.1.2.1,(u1.2.1.2.2.1,u1.2.1.2.2.2))),())
        )
      )
    ) (
    J2 n ((b502000.1,(b502000.2.1,(b502000.2.2.1,b502000.2.2.2))),())
    ):=(hideF_eq _).trans (by kernel_rfl)
theorem e2 (n:Nat)(b502000:D_meta_census):J2 n (b502000,()) =
  some ((-1),(b502000.1,(b502000.2.1,(b502000.2.2.1,b502000.2.2.2))),()):=(hideF_eq _).trans (by kernel_rfl)
theorem phi (n:Nat):∀ e∈(X n).c.Φ,EntryOk Tryz.prog e:=allE_cons (mkEntry_ok (F_meta_every_Bucket_1.ok n)) (allE_nil)
theorem ok (n:Nat):FnOk Tryz.prog 160 ia io (fRun (X n) n T Tryz.f160 ia io):=tree_ok mixed tabIs (phi n) Tryz.func160 (by kernel_rfl) rfl
noncomputable def en (n:Nat):Entry:=mkEntry 160 ia io (fRun (X n) n T Tryz.f160 ia io)
end F_slices_IndexFunc_Bucket
end Go.Proofs.YtemhlkdingkjnaaGreatDoor
namespace Go.Proofs.YtemhlkdingkjnaaGreatDoor
open Go Go.Va Go.Proofs
namespace F_slices_ContainsFunc_Bucket
abbrev ia:List Ai:=[.dat (.slice T_api_Bucket),.fn (.fn1 100 (.bd 67)) [(.p (.d T_api_State) (.p (.d (.int .i64)) (.p (.m 0 (.int .u64) .bool) (.d .unit))))]]
abbrev io:List (Nat×Oi):=[(4,.dat .bool)]
abbrev R:Type:=DOut ia io
noncomputable def X (n:Nat):Ctx:=⟨⟨tab,[F_slices_IndexFunc_Bucket.en n],0,[]⟩,9,bnOf 0 ia⟩
noncomputable def T:CT := .o
noncomputable def f (n:Nat)(s_:List (D_api_Bucket))(fc0:D_meta_census):Option R:=fRun (X n) n T Tryz.f99 ia io (s_,fc0,())
theorem e0 (n:Nat)(s_:List (D_api_Bucket))(fc0:D_meta_census):f n s_ fc0 =
  bnd (F_slices_IndexFunc_Bucket.f n s_ (fc0.1,(fc0.2.1,(fc0.2.2.1,fc0.2.2.2)))) λu1=>
  some ((hide (decide (u1.1≥(0:Int)))),(u1.2.1.1,(u1.2.1.2.1,(u1.2.1.2.2.1,u1.2.1.2.2.2))),()):=(hideF_eq _).trans (by kernel_rfl)
theorem phi (n:Nat):∀ e∈(X n).c.Φ,EntryOk Tryz.prog e:=allE_cons (mkEntry_ok (F_slices_IndexFunc_Bucket.ok n)) (allE_nil)
theorem ok (n:Nat):FnOk Tryz.prog 99 ia io (fRun (X n) n T Tryz.f99 ia io):=tree_ok mixed tabIs (phi n) Tryz.func99 (by kernel_rfl) rfl
noncomputable def en (n:Nat):Entry:=mkEntry 99 ia io (fRun (X n) n T Tryz.f99 ia io)
end F_slices_ContainsFunc_Bucket
end Go.Proofs.YtemhlkdingkjnaaGreatDoor
namespace Go.Proofs.YtemhlkdingkjnaaGreatDoor
open Go Go.Va Go.Proofs
namespace F_meta_every_Bucket
abbrev ia:List Ai:=[.dat (.slice T_api_Bucket),.fn (.bd 67) [(.p (.d T_api_State) (.p (.d (.int .i64)) (.p (.m 0 (.int .u64) .bool) (.d .unit))))]]
abbrev io:List (Nat×Oi):=[(4,.dat .bool)]
abbrev R:Type:=DOut ia io
noncomputable def X (n:Nat):Ctx:=⟨⟨tab,[F_slices_ContainsFunc_Bucket.en n],0,[6]⟩,9,bnOf 0 ia⟩
noncomputable def T:CT := .o
noncomputable def f (n:Nat)(list:List (D_api_Bucket))(goodc0:D_meta_census):Option R:=fRun (X n) n T Tryz.f66 ia io (list,goodc0,())
theorem e0 (n:Nat)(list:List (D_api_Bucket))(goodc0:D_meta_census):f n list goodc0 =
  bnd (F_slices_ContainsFunc_Bucket.f n list (goodc0.1,(goodc0.2.1,(goodc0.2.2.1,goodc0.2.2.2)))) λu1=>
  some ((!u1.1),(u1.2.1.1,(u1.2.1.2.1,(u1.2.1.2.2.1,u1.2.1.2.2.2))),()):=(hideF_eq _).trans (by kernel_rfl)
theorem phi (n:Nat):∀ e∈(X n).c.Φ,EntryOk Tryz.prog e:=allE_cons (mkEntry_ok (F_slices_ContainsFunc_Bucket.ok n)) (allE_nil)
theorem ok (n:Nat):FnOk Tryz.prog 66 ia io (fRun (X n) n T Tryz.f66 ia io):=tree_ok mixed tabIs (phi n) Tryz.func66 (by kernel_rfl) rfl
noncomputable def en (n:Nat):Entry:=mkEntry 66 ia io (fRun (X n) n T Tryz.f66 ia io)
end F_meta_every_Bucket
end Go.Proofs.YtemhlkdingkjnaaGreatDoor
namespace Go.Proofs.YtemhlkdingkjnaaGreatDoor
open Go Go.Va Go.Proofs
namespace F_meta_byName
abbrev ia:List Ai:=[.dat T_api_Bucket,.dat T_api_Bucket]
abbrev io:List (Nat×Oi):=[(4,.dat (.int .i64))]
abbrev R:Type:=DOut ia io
noncomputable def X (n:Nat):Ctx:=⟨⟨tab,[F_cmp_Compare_string.en n],0,[]⟩,10,bnOf 0 ia⟩
noncomputable def T:CT := .o
noncomputable def f (n:Nat)(a:D_api_Bucket)(b:D_api_Bucket):Option R:=fRun (X n) n T Tryz.f33 ia io (a,b,())
theorem e0 (n:Nat)(a:D_api_Bucket)(b:D_api_Bucket):f n a b =
  bnd (F_cmp_Compare_string.f n a.1 b.1) λu1=>
  some (u1.1,()):=(hideF_eq _).trans (by kernel_rfl)
theorem phi (n:Nat):∀ e∈(X n).c.Φ,EntryOk Tryz.prog e:=allE_cons (mkEntry_ok (F_cmp_Compare_string.ok n)) (allE_nil)
theorem ok (n:Nat):FnOk Tryz.prog 33 ia io (fRun (X n) n T Tryz.f33 ia io):=tree_ok mixed tabIs (phi n) Tryz.func33 (by kernel_rfl) rfl
noncomputable def en (n:Nat):Entry:=mkEntry 33 ia io (fRun (X n) n T Tryz.f33 ia io)
end F_meta_byName
end Go.Proofs.YtemhlkdingkjnaaGreatDoor
namespace Go.Proofs.YtemhlkdingkjnaaGreatDoor
open Go Go.Va Go.Proofs
namespace F_meta_up_Bucket
abbrev ia:List Ai:=[.dat (.slice T_api_Bucket),.fn (.fn 33) []]
abbrev io:List (Nat×Oi):=[(4,.dat .bool)]
abbrev R:Type:=DOut ia io
noncomputable def X (n:Nat):Ctx:=⟨⟨tab,[F_meta_byName.en n],0,[]⟩,24,bnOf 0 ia⟩
abbrev g1:List Si:=[.dat 0 (.slice T_api_Bucket),.clo 1 (.fn 33) [],.dat 5 (.int .i64)]
abbrev g2:List Si:=[]
noncomputable def T:CT:=(.s .o (.s (.s .o (.b (.l g1 .o))) (.r g2 .o)))
noncomputable def J1 (n:Nat)(m:Nat):(List (D_api_Bucket))×Int×Unit→Option R:=jL (X n) n T (bodyOf Tryz.f65) (endK ia io) g1 [1,0,1,0] [] m
noncomputable def J2 (n:Nat):Unit→Option R:=jR (X n) n T (bodyOf Tryz.f65) (endK ia io) g2 [1,1] []
noncomputable def f (n:Nat)(list:List (D_api_Bucket)):Option R:=fRun (X n) n T Tryz.f65 ia io (list,())
theorem e0 (n:Nat)(list:List (D_api_Bucket)):f n list =
  J1 n n (list,1,()):=(hideF_eq _).trans (by kernel_rfl)
theorem e1 (n m:Nat) (list:List (D_api_Bucket)) (i:Int):J1 n (m+1) (list,i,()) =
  bIf ((hide (decide (i<((list.length:Nat):Int))))) (
    gIf (0≤(IntKind.i64.wrap (i-(1:Int)))∧(IntKind.i64.wrap (i-(1:Int)))<((list.length:Nat):Int)) (
      gIf (0≤i∧i<((list.length:Nat):Int)) (
        bnd (F_meta_byName.f n (List.getD list ((IntKind.i64.wrap (i-(1:Int))).toNat) (Va.dflt T_api_Bucket)) (List.getD list i.toNat (Va.dflt T_api_Bucket))) λu1=>
        bIf ((hide (decide (u1.1≥(0:Int))))) (
          some (false,())
          ) (
          J1 n m (list,(IntKind.i64.wrap (i+(1:Int))),())
          )
        )
      )
    ) (
    J2 n (())
    ):=(hideF_eq _).trans (by kernel_rfl)
theorem e2 (n:Nat):J2 n (()) =
  some (true,()):=(hideF_eq _).trans (by kernel_rfl)
theorem phi (n:Nat):∀ e∈(X n).c.Φ,EntryOk Tryz.prog e:=allE_cons (mkEntry_ok (F_meta_byName.ok n)) (allE_nil)
theorem ok (n:Nat):FnOk Tryz.prog 65 ia io (fRun (X n) n T Tryz.f65 ia io):=tree_ok mixed tabIs (phi n) Tryz.func65 (by kernel_rfl) rfl
noncomputable def en (n:Nat):Entry:=mkEntry 65 ia io (fRun (X n) n T Tryz.f65 ia io)
end F_meta_up_Bucket
end Go.Proofs.YtemhlkdingkjnaaGreatDoor
namespace Go.Proofs.YtemhlkdingkjnaaGreatDoor
open Go Go.Va Go.Proofs
namespace F_meta_Sound
abbrev ia:List Ai:=[.dat T_api_State]
abbrev io:List (Nat×Oi):=[(2,.dat .bool)]
abbrev R:Type:=DOut ia io
noncomputable def X (n:Nat):Ctx:=⟨⟨tab,[F_when_Clamp.en n,F_meta_up_Bucket.en n,F_meta_every_Bucket.en n],0,[]⟩,56,bnOf 0 ia⟩
abbrev g1:List Si:=[.ref 1 1 T_api_State,.box 1 (.d T_api_State)]
abbrev g2:List Si:=[.ref 1 1 T_api_State,.box 1 (.d T_api_State)]
noncomputable def T:CT:=(.s .o (.s .o (.r g1 (.s .o (.r g2 .o)))))
noncomputable def J1 (n:Nat):D_api_State×Unit→Option R:=jR (X n) n T (bodyOf Tryz.f31) (endK ia io) g1 [1,1] []
noncomputable def J2 (n:Nat):D_api_State×Unit→Option R:=jR (X n) n T (bodyOf Tryz.f31) (endK ia io) g2 [1,1,1] []
noncomputable def f (n:Nat)(s_:D_api_State):Option R:=fRun (X n) n T Tryz.f31 ia io (s_,())
theorem e0 (n:Nat) (s_:D_api_State):f n s_ =
  bnd (F_when_Clamp.f n s_.1) λu1=>
  bIf ((hide (s_.1 != u1.1))) (
    some (false,())
    ) (
    bIf ((hide (decide (s_.2.1<(1:Int))))) (
      some (false,())
      ) (
      bIf ((hide (decide (s_.2.1>(4611686018427387904:Int))))) (
        some (false,())
        ) (
        bIf ((hide (decide (s_.2.2.1<(1:Int))))) (
          some (false,())
          ) (
          bIf ((hide (decide (s_.2.2.1>(4611686018427387904:Int))))) (
            some (false,())
            ) (
            J1 n (s_,())
            )
          )
        )
      )
    ):=(hideF_eq _).trans (by kernel_rfl)
theorem e1 (n:Nat)(s_:D_api_State):J1 n (s_,()) =
  bIf ((hide (decide (((s_.2.2.2.1.length:Nat):Int)>(16:Int))))) (
    some (false,())
    ) (
    bnd (F_meta_up_Bucket.f n s_.2.2.2.1) λu1=>
    bIf ((!u1.1)) (
      some (false,())
      ) (
      J2 n (s_,())
      )
    ):=(hideF_eq _).trans (by kernel_rfl)
theorem e2 (n:Nat)(s_:D_api_State):J2 n (s_,()) =
  bnd (F_meta_every_Bucket.f n s_.2.2.2.1 (s_,(0,([],())))) λu1=>
  bIf (u1.1) (
    some ((hide (decide (u1.2.1.2.1≤(256:Int)))),())
    ) (
    some (false,())
    ):=(hideF_eq _).trans (by kernel_rfl)
theorem phi (n:Nat):∀ e∈(X n).c.Φ,EntryOk Tryz.prog e:=allE_cons (mkEntry_ok (F_when_Clamp.ok n)) (allE_cons (mkEntry_ok (F_meta_up_Bucket.ok n)) (allE_cons (mkEntry_ok (F_meta_every_Bucket.ok n)) (allE_nil)))
theorem ok (n:Nat):FnOk Tryz.prog 31 ia io (fRun (X n) n T Tryz.f31 ia io):=tree_ok mixed tabIs (phi n) Tryz.func31 (by kernel_rfl) rfl
noncomputable def en (n:Nat):Entry:=mkEntry 31 ia io (fRun (X n) n T Tryz.f31 ia io)
end F_meta_Sound
end Go.Proofs.YtemhlkdingkjnaaGreatDoor
namespace Go.Proofs.YtemhlkdingkjnaaGreatDoor
open Go Go.Va Go.Proofs
namespace F_count_all
abbrev ia:List Ai:=[.dat T_api_State]
abbrev io:List (Nat×Oi):=[(2,.val (.r 0 T_count_says))]
abbrev R:Type:=DOut ia io
noncomputable def X (n:Nat):Ctx:=⟨⟨tab,[F_meta_Sound.en n],0,[]⟩,81,bnOf 0 ia⟩
abbrev g1:List Si:=[.val 3 (.r 200300 T_count_says),.dat 18 (.slice T_api_Bucket),.dat 19 (.int .i64),.dat 20 (.int .i64)]
abbrev g2:List Si:=[.val 3 (.r 200300 T_count_says),.ref 5 5 T_api_Bucket,.dat 18 (.slice T_api_Bucket),.dat 19 (.int .i64),.dat 20 (.int .i64),.dat 25 (.slice T_api_Object),.dat 26 (.int .i64),.dat 27 (.int .i64),.box 5 (.d T_api_Bucket)]
abbrev g3:List Si:=[.val 3 (.r 200300 T_count_says),.ref 5 5 T_api_Bucket,.dat 18 (.slice T_api_Bucket),.dat 19 (.int .i64),.dat 20 (.int .i64),.dat 25 (.slice T_api_Object),.dat 26 (.int .i64),.dat 27 (.int .i64),.dat 32 (.slice T_api_Version),.dat 33 (.int .i64),.dat 34 (.int .i64),.box 5 (.d T_api_Bucket)]
abbrev g4:List Si:=[.val 3 (.r 200300 T_count_says),.ref 5 5 T_api_Bucket,.dat 18 (.slice T_api_Bucket),.dat 19 (.int .i64),.dat 20 (.int .i64),.dat 25 (.slice T_api_Object),.dat 26 (.int .i64),.dat 27 (.int .i64),.box 5 (.d T_api_Bucket)]
abbrev g5:List Si:=[.val 3 (.r 200300 T_count_says),.ref 5 5 T_api_Bucket,.dat 18 (.slice T_api_Bucket),.dat 19 (.int .i64),.dat 20 (.int .i64),.box 5 (.d T_api_Bucket)]
abbrev g6:List Si:=[.val 3 (.r 200300 T_count_says),.dat 18 (.slice T_api_Bucket),.dat 19 (.int .i64),.dat 20 (.int .i64),.dat 54 (.slice T_api_Upload),.dat 55 (.int .i64),.dat 56 (.int .i64)]
abbrev g7:List Si:=[.val 3 (.r 200300 T_count_says),.dat 18 (.slice T_api_Bucket),.dat 19 (.int .i64),.dat 20 (.int .i64),.dat 54 (.slice T_api_Upload),.dat 55 (.int .i64),.dat 56 (.int .i64),.dat 61 (.slice T_api_Part),.dat 62 (.int .i64),.dat 63 (.int .i64)]
abbrev g8:List Si:=[.val 3 (.r 200300 T_count_says),.dat 18 (.slice T_api_Bucket),.dat 19 (.int .i64),.dat 20 (.int .i64),.dat 54 (.slice T_api_Upload),.dat 55 (.int .i64),.dat 56 (.int .i64)]
abbrev g9:List Si:=[.val 3 (.r 200300 T_count_says),.dat 18 (.slice T_api_Bucket),.dat 19 (.int .i64),.dat 20 (.int .i64)]
abbrev g10:List Si:=[.val 3 (.r 200300 T_count_says)]
noncomputable def T:CT:=(.s .o (.s .o (.s .o (.s (.s .o (.b (.l g1 (.s .o (.s .o (.s (.b (.s .o (.s (.s .o (.b (.l g2 (.s .o (.s .o (.s (.b (.s .o (.s .o (.b (.l g3 .o))))) (.r g4 .o))))))) (.r g5 (.s .o (.b (.l g6 (.s .o (.s .o (.s (.b (.s .o (.s .o (.b (.l g7 .o))))) (.r g8 .o))))))))))) (.r g9 .o))))))) (.r g10 .o)))))
noncomputable def J1 (n:Nat)(m:Nat):(List (D_count_says))×(List (D_api_Bucket))×Int×Int×Unit→Option R:=jL (X n) n T (bodyOf Tryz.f53) (endK ia io) g1 [1,1,1,0,1,0] [] m
noncomputable def J2 (n m1:Nat)(m:Nat):(List (D_count_says))×(List (D_api_Bucket))×Int×Int×(List (D_api_Object))×Int×Int×D_api_Bucket×Unit→Option R:=jL (X n) n T (bodyOf Tryz.f53) (endK ia io) g2 [1,1,1,0,1,0,0,1,1,0,0,1,0,1,0] [m1] m
noncomputable def J3 (n m1 m2:Nat)(m:Nat):(List (D_count_says))×(List (D_api_Bucket))×Int×Int×(List (D_api_Object))×Int×Int×(List (D_api_Version))×Int×Int×D_api_Bucket×Unit→Option R:=jL (X n) n T (bodyOf Tryz.f53) (endK ia io) g3 [1,1,1,0,1,0,0,1,1,0,0,1,0,1,0,0,1,1,0,0,1,1,0] [m1,m2] m
noncomputable def J4 (n m1 m2:Nat):(List (D_count_says))×(List (D_api_Bucket))×Int×Int×(List (D_api_Object))×Int×Int×D_api_Bucket×Unit→Option R:=jR (X n) n T (bodyOf Tryz.f53) (endK ia io) g4 [1,1,1,0,1,0,0,1,1,0,0,1,0,1,0,0,1,1,1] [m1,m2]
noncomputable def J5 (n m1:Nat):(List (D_count_says))×(List (D_api_Bucket))×Int×Int×D_api_Bucket×Unit→Option R:=jR (X n) n T (bodyOf Tryz.f53) (endK ia io) g5 [1,1,1,0,1,0,0,1,1,0,0,1,1] [m1]
noncomputable def J6 (n m1:Nat)(m:Nat):(List (D_count_says))×(List (D_api_Bucket))×Int×Int×(List (D_api_Upload))×Int×Int×Unit→Option R:=jL (X n) n T (bodyOf Tryz.f53) (endK ia io) g6 [1,1,1,0,1,0,0,1,1,0,0,1,1,1,0] [m1] m
noncomputable def J7 (n m1 m6:Nat)(m:Nat):(List (D_count_says))×(List (D_api_Bucket))×Int×Int×(List (D_api_Upload))×Int×Int×(List (D_api_Part))×Int×Int×Unit→Option R:=jL (X n) n T (bodyOf Tryz.f53) (endK ia io) g7 [1,1,1,0,1,0,0,1,1,0,0,1,1,1,0,0,1,1,0,0,1,1,0] [m1,m6] m
noncomputable def J8 (n m1 m6:Nat):(List (D_count_says))×(List (D_api_Bucket))×Int×Int×(List (D_api_Upload))×Int×Int×Unit→Option R:=jR (X n) n T (bodyOf Tryz.f53) (endK ia io) g8 [1,1,1,0,1,0,0,1,1,0,0,1,1,1,0,0,1,1,1] [m1,m6]
noncomputable def J9 (n m1:Nat):(List (D_count_says))×(List (D_api_Bucket))×Int×Int×Unit→Option R:=jR (X n) n T (bodyOf Tryz.f53) (endK ia io) g9 [1,1,1,0,1,0,0,1,1,1] [m1]
noncomputable def J10 (n:Nat):(List (D_count_says))×Unit→Option R:=jR (X n) n T (bodyOf Tryz.f53) (endK ia io) g10 [1,1,1,1] []
noncomputable def f (n:Nat)(s_:D_api_State):Option R:=fRun (X n) n T Tryz.f53 ia io (s_,())
theorem e0 (n:Nat)(s_:D_api_State):f n s_ =
  bnd (F_meta_Sound.f n s_) λu1=>
  bIf ((!u1.1)) (
    some ([],())
    ) (
    J1 n n ([],s_.2.2.2.1,((s_.2.2.2.1.length:Nat):Int),0,())
    ):=(hideF_eq _).trans (by kernel_rfl)
theorem e1 (n m:Nat)(out:List (D_count_says))(t18:List (D_api_Bucket))(t19:Int)(t20:Int):J1 n (m+1) (out,t18,t19,t20,()) =
  bIf ((hide (decide (t20<t19)))) (
    gIf (0≤t20∧t20<((t18.length:Nat):Int)) (
      J2 n m n (out,t18,t19,t20,(((((List.getD t18 t20.toNat (Va.dflt T_api_Bucket)).2).2).2).2).1,((((((((List.getD t18 t20.toNat (Va.dflt T_api_Bucket)).2).2).2).2).1).length:Nat):Int),0,(List.getD t18 t20.toNat (Va.dflt T_api_Bucket)),())
      )
    ) (
    J10 n (out,())
    ):=(hideF_eq _).trans (by kernel_rfl)
theorem e2 (n m1 m:Nat)(out:List (D_count_says))(t18:List (D_api_Bucket))(t19:Int)(t20:Int)(t25:List (D_api_Object))(t26:Int)(t27:Int)(b:D_api_Bucket):J2 n m1 (m+1) (out,t18,t19,t20,t25,t26,t27,b,()) =
  bIf ((hide (decide (t27<t26)))) (
    gIf (0≤t27∧t27<((t25.length:Nat):Int)) (
      J3 n m1 m n (out,t18,t19,t20,t25,t26,t27,((List.getD t25 t27.toNat (Va.dflt T_api_Object)).2).1,(((((List.getD t25 t27.toNat (Va.dflt T_api_Object)).2).1).length:Nat):Int),0,b,())
      )
    ) (
    J5 n m1 (out,t18,t19,t20,b,())
    ):=(hideF_eq _).trans (by kernel_rfl)
theorem e3 (n m1 m2 m:Nat) (out:List (D_count_says)) (t18:List (D_api_Bucket)) (t19:Int) (t20:Int) (t25:List (D_api_Object)) (t26:Int) (t27:Int) (t32:List (D_api_Version)) (t33:Int) (t34:Int) (b:D_api_Bucket):J3 n m1 m2 (m+1) (out,t18,t19,t20,t25,t26,t27,t32,t33,t34,b,()) =
  bIf ((hide (decide (t34<t33)))) (
    gIf (0≤t34∧t34<((t32.length:Nat):Int)) (
      bIf ((!(((List.getD t32 t34.toNat (Va.dflt T_api_Version)).2).1))) (
        gIf ((out.length+1)*48≤70368744177664) (
          J3 n m1 m2 m ((out++([(((((List.getD t32 t34.toNat (Va.dflt T_api_Version)).2).2).2).1,((((List.getD t32 t34.toNat (Va.dflt T_api_Version)).2).2).1,((((((List.getD t32 t34.toNat (Va.dflt T_api_Version)).2).2).2).2).1,())))]:List (D_count_says))),t18,t19,t20,t25,t26,t27,t32,t33,(IntKind.i64.wrap (t34+(1:Int))),b,())
          )
        ) (
        J3 n m1 m2 m (out,t18,t19,t20,t25,t26,t27,t32,t33,(IntKind.i64.wrap (t34+(1:Int))),b,())
        )
      )
    ) (
    J4 n m1 m2 (out,t18,t19,t20,t25,t26,t27,b,())
    ):=(hideF_eq _).trans (by kernel_rfl)
theorem e4 (n m1 m2:Nat)(out:List (D_count_says))(t18:List (D_api_Bucket))(t19:Int)(t20:Int)(t25:List (D_api_Object))(t26:Int)(t27:Int)(b:D_api_Bucket):J4 n m1 m2 (out,t18,t19,t20,t25,t26,t27,b,()) =
  J2 n m1 m2 (out,t18,t19,t20,t25,t26,(IntKind.i64.wrap (t27+(1:Int))),b,()):=(hideF_eq _).trans (by kernel_rfl)
theorem e5 (n m1:Nat)(out:List (D_count_says))(t18:List (D_api_Bucket))(t19:Int)(t20:Int)(b:D_api_Bucket):J5 n m1 (out,t18,t19,t20,b,()) =
  J6 n m1 n (out,t18,t19,t20,b.2.2.2.2.2.1,((b.2.2.2.2.2.1.length:Nat):Int),0,()):=(hideF_eq _).trans (by kernel_rfl)
theorem e6 (n m1 m:Nat)(out:List (D_count_says))(t18:List (D_api_Bucket))(t19:Int)(t20:Int)(t54:List (D_api_Upload))(t55:Int)(t56:Int):J6 n m1 (m+1) (out,t18,t19,t20,t54,t55,t56,()) =
  bIf ((hide (decide (t56<t55)))) (
    gIf (0≤t56∧t56<((t54.length:Nat):Int)) (
      J7 n m1 m n (out,t18,t19,t20,t54,t55,t56,((((List.getD t54 t56.toNat (Va.dflt T_api_Upload)).2).2).2).1,(((((((List.getD t54 t56.toNat (Va.dflt T_api_Upload)).2).2).2).1).length:Nat):Int),0,())
      )
    ) (
    J9 n m1 (out,t18,t19,t20,())
    ):=(hideF_eq _).trans (by kernel_rfl)
theorem e7 (n m1 m6 m:Nat) (out:List (D_count_says)) (t18:List (D_api_Bucket)) (t19:Int) (t20:Int) (t54:List (D_api_Upload)) (t55:Int) (t56:Int) (t61:List (D_api_Part)) (t62:Int) (t63:Int):J7 n m1 m6 (m+1) (out,t18,t19,t20,t54,t55,t56,t61,t62,t63,()) =
  bIf ((hide (decide (t63<t62)))) (
    gIf (0≤t63∧t63<((t61.length:Nat):Int)) (
      gIf ((out.length+1)*48≤70368744177664) (
        J7 n m1 m6 m ((out++([((((List.getD t61 t63.toNat (Va.dflt T_api_Part)).2).2).1,(((List.getD t61 t63.toNat (Va.dflt T_api_Part)).2).1,(((((List.getD t61 t63.toNat (Va.dflt T_api_Part)).2).2).2).1,())))]:List (D_count_says))),t18,t19,t20,t54,t55,t56,t61,t62,(IntKind.i64.wrap (t63+(1:Int))),())
        )
      )
    ) (
    J8 n m1 m6 (out,t18,t19,t20,t54,t55,t56,())
    ):=(hideF_eq _).trans (by kernel_rfl)
theorem e8 (n m1 m6:Nat)(out:List (D_count_says))(t18:List (D_api_Bucket))(t19:Int)(t20:Int)(t54:List (D_api_Upload))(t55:Int)(t56:Int):J8 n m1 m6 (out,t18,t19,t20,t54,t55,t56,()) =
  J6 n m1 m6 (out,t18,t19,t20,t54,t55,(IntKind.i64.wrap (t56+(1:Int))),()):=(hideF_eq _).trans (by kernel_rfl)
theorem e9 (n m1:Nat)(out:List (D_count_says))(t18:List (D_api_Bucket))(t19:Int)(t20:Int):J9 n m1 (out,t18,t19,t20,()) =
  J1 n m1 (out,t18,t19,(IntKind.i64.wrap (t20+(1:Int))),()):=(hideF_eq _).trans (by kernel_rfl)
theorem e10 (n:Nat)(out:List (D_count_says)):J10 n (out,()) =
  some (out,()):=(hideF_eq _).trans (by kernel_rfl)
theorem phi (n:Nat):∀ e∈(X n).c.Φ,EntryOk Tryz.prog e:=allE_cons (mkEntry_ok (F_meta_Sound.ok n)) (allE_nil)
theorem ok (n:Nat):FnOk Tryz.prog 53 ia io (fRun (X n) n T Tryz.f53 ia io):=tree_ok mixed tabIs (phi n) Tryz.func53 (by kernel_rfl) rfl
noncomputable def en (n:Nat):Entry:=mkEntry 53 ia io (fRun (X n) n T Tryz.f53 ia io)
end F_count_all
end Go.Proofs.YtemhlkdingkjnaaGreatDoor
namespace Go.Proofs.YtemhlkdingkjnaaGreatDoor
open Go Go.Va Go.Proofs
namespace F_slices_Clip_Use
abbrev ia:List Ai:=[.dat (.slice T_count_Use)]
abbrev io:List (Nat×Oi):=[(2,.dat (.slice T_count_Use))]
abbrev R:Type:=DOut ia io
noncomputable def X (n:Nat):Ctx:=⟨⟨tab,[],0,[]⟩,9,bnOf 0 ia⟩
noncomputable def T:CT := .o
noncomputable def f (n:Nat)(s_:List (D_count_Use)):Option R:=fRun (X n) n T Tryz.f57 ia io (s_,())
theorem e0 (n:Nat) (s_:List (D_count_Use)):f n s_ =
  gIf (0≤((s_.length:Nat):Int)∧((s_.length:Nat):Int)≤((s_.length:Nat):Int)) (
    gIf (0≤(0:Int)∧(0:Int)≤((s_.length:Nat):Int)) (
      gIf (((s_.length:Nat):Int)≤((s_.length:Nat):Int)∧((s_.length:Nat):Int)≤((s_.length:Nat):Int)∧true=true) (
        some (((s_.take (((s_.length:Nat):Int).toNat)).drop 0),())
        )
      )
    ):=(hideF_eq _).trans (by kernel_rfl)
theorem phi (n:Nat):∀ e∈(X n).c.Φ,EntryOk Tryz.prog e:=allE_nil
theorem ok (n:Nat):FnOk Tryz.prog 57 ia io (fRun (X n) n T Tryz.f57 ia io):=tree_ok mixed tabIs (phi n) Tryz.func57 (by kernel_rfl) rfl
noncomputable def en (n:Nat):Entry:=mkEntry 57 ia io (fRun (X n) n T Tryz.f57 ia io)
end F_slices_Clip_Use
end Go.Proofs.YtemhlkdingkjnaaGreatDoor
namespace Go.Proofs
open Go.Shelf
def Tryz.sortUse_ren:Go.Shelf.Ren:=⟨fun | 6=>54 | 15=>80 | 14=>90 | 28=>130 | 29=>131 | 20=>134 | 21=>135 | 22=>136 | 23=>137 | 24=>138 | 25=>139 | 26=>140 | 27=>141 | 46=>190 | 47=>185 | 48=>186 | 49=>191 | 50=>192 | 57=>221 | n=>n,fun | 22=>75 | 24=>80 | 25=>126 | 3=>3 | 39=>155 | 0=>0 | 53=>193 | 55=>22 | 4=>4 | 46=>187 | 45=>186 | 50=>96 | 5=>5 | 9=>9 | 66=>230 | 70=>234 | 76=>263 | 77=>264 | n=>n,fun | n=>n⟩
theorem Tryz.sortUse:Go.Proofs.SlLaysF0.n6 Tryz.prog Tryz.sortUse_ren:={
  mixed:=by kernel_rfl
  f6:=⟨Tryz.f54.name,by kernel_rfl,Tryz.func54.trans (congrArg some (by kernel_rfl))⟩
  f14:=⟨Tryz.f90.name,by kernel_rfl,Tryz.func90.trans (congrArg some (by kernel_rfl))⟩
  f15:=Tryz.func80.trans (congrArg some (by kernel_rfl))
  f20:=⟨Tryz.f134.name,by kernel_rfl,Tryz.func134.trans (congrArg some (by kernel_rfl))⟩
  f21:=⟨Tryz.f135.name,by kernel_rfl,Tryz.func135.trans (congrArg some (by kernel_rfl))⟩
  f22:=⟨Tryz.f136.name,by kernel_rfl,Tryz.func136.trans (congrArg some (by kernel_rfl))⟩
  f23:=⟨Tryz.f137.name,by kernel_rfl,Tryz.func137.trans (congrArg some (by kernel_rfl))⟩
  f24:=⟨Tryz.f138.name,by kernel_rfl,Tryz.func138.trans (congrArg some (by kernel_rfl))⟩
  f25:=⟨Tryz.f139.name,by kernel_rfl,Tryz.func139.trans (congrArg some (by kernel_rfl))⟩
  f26:=⟨Tryz.f140.name,by kernel_rfl,Tryz.func140.trans (congrArg some (by kernel_rfl))⟩
  f27:=⟨Tryz.f141.name,by kernel_rfl,Tryz.func141.trans (congrArg some (by kernel_rfl))⟩
  f28:=Tryz.func130.trans (congrArg some (by kernel_rfl))
  f29:=Tryz.func131.trans (congrArg some (by kernel_rfl))
  f46:=⟨Tryz.f190.name,by kernel_rfl,Tryz.func190.trans (congrArg some (by kernel_rfl))⟩
  f47:=Tryz.func185.trans (congrArg some (by kernel_rfl))
  f48:=Tryz.func186.trans (congrArg some (by kernel_rfl))
  f49:=⟨Tryz.f191.name,by kernel_rfl,Tryz.func191.trans (congrArg some (by kernel_rfl))⟩
  f50:=⟨Tryz.f192.name,by kernel_rfl,Tryz.func192.trans (congrArg some (by kernel_rfl))⟩
  f57:=⟨Tryz.f221.name,by kernel_rfl,Tryz.func221.trans (congrArg some (by kernel_rfl))⟩
  t0:=Tryz.underlying0
  a0:=Tryz.isAgg0
  z0:=Tryz.sizeOf0
  v0:=Tryz.zeroValue0
  t3:=Tryz.underlying3
  a3:=Tryz.isAgg3
  z3:=Tryz.sizeOf3
  v3:=Tryz.zeroValue3
  t4:=Tryz.underlying4
  a4:=Tryz.isAgg4
  z4:=Tryz.sizeOf4
  v4:=Tryz.zeroValue4
  t5:=Tryz.underlying5
  a5:=Tryz.isAgg5
  z5:=Tryz.sizeOf5
  v5:=Tryz.zeroValue5
  t9:=Tryz.underlying9
  a9:=Tryz.isAgg9
  z9:=Tryz.sizeOf9
  v9:=Tryz.zeroValue9
  t22:=Tryz.underlying75
  a22:=Tryz.isAgg75
  z22:=Tryz.sizeOf75
  v22:=Tryz.zeroValue75
  t25:=Tryz.underlying126
  a25:=Tryz.isAgg126
  z25:=Tryz.sizeOf126
  v25:=Tryz.zeroValue126
  t39:=Tryz.underlying155
  a39:=Tryz.isAgg155
  z39:=Tryz.sizeOf155
  v39:=Tryz.zeroValue155
  t45:=Tryz.underlying186
  a45:=Tryz.isAgg186
  z45:=Tryz.sizeOf186
  v45:=Tryz.zeroValue186
  t46:=Tryz.underlying187
  a46:=Tryz.isAgg187
  z46:=Tryz.sizeOf187
  v46:=Tryz.zeroValue187
  t50:=Tryz.underlying96
  a50:=Tryz.isAgg96
  z50:=Tryz.sizeOf96
  v50:=Tryz.zeroValue96
  t53:=Tryz.underlying193
  a53:=Tryz.isAgg193
  z53:=Tryz.sizeOf193
  v53:=Tryz.zeroValue193
  t55:=Tryz.underlying22
  a55:=Tryz.isAgg22
  z55:=Tryz.sizeOf22
  v55:=Tryz.zeroValue22
  t66:=Tryz.underlying230
  a66:=Tryz.isAgg230
  z66:=Tryz.sizeOf230
  v66:=Tryz.zeroValue230
  t70:=Tryz.underlying234
  a70:=Tryz.isAgg234
  z70:=Tryz.sizeOf234
  v70:=Tryz.zeroValue234
  t76:=Tryz.underlying263
  a76:=Tryz.isAgg263
  z76:=Tryz.sizeOf263
  v76:=Tryz.zeroValue263
  t77:=Tryz.underlying264
  a77:=Tryz.isAgg264
  z77:=Tryz.sizeOf264
  v77:=Tryz.zeroValue264 }
end Go.Proofs
namespace Go.Proofs.YtemhlkdingkjnaaGreatDoor
open Go Go.Va Go.Proofs Go.RowKit Go.Lib Go.Sort Go.Shelf
namespace F_slices_SortFunc_Use
theorem isNaN_u64 (x:Int)(w:World):Calls Tryz.prog 91 #[.int .u64 x] w λe w'=>e = .returned (.bool false)∧w'=w:=by
  have mixed:=mixed
  go_enter Tryz.func91,Tryz.ntmps91
  go_wp2
  go_ret
  exact⟨by simp,rfl⟩
set_option maxHeartbeats 1000000 in
theorem compare_u64 (x y:Int)(w:World):Calls Tryz.prog 56 #[.int .u64 x,.int .u64 y] w λe w'=>e = .returned (.int .i64 (Lib.compareInt x y))∧w'=w:=by
  have mixed:=mixed
  go_enter Tryz.func56,Tryz.ntmps56
  go_wp2_with (go_at_call 91;refine (isNaN_u64 _ _).mono ?_;rintro e w' ⟨rfl,hw⟩;rw[hw])
  all_goals (go_ret;refine⟨?_,rfl⟩;unfold Lib.compareInt;(repeat' split)<;>first | rfl | (exfalso;omega))
set_option maxHeartbeats 1000000 in
theorem closure (A B:Array Value)(x y:Int)(hA:A[0]?=some (.int .u64 x))(hB:B[0]?=some (.int .u64 y))(W:World):Calls Tryz.prog 55 #[.agg A,.agg B] W λe w'=>e = .returned (.int .i64 (Lib.compareInt x y))∧∃ q os',w'=grow (W.drewN q) os':=by
  have mixed:=mixed
  have hcon:=compare_u64 x y
  generalize Lib.compareInt x y=r at hcon ⊢
  go_enter Tryz.func55,Tryz.ntmps55
  go_wp2_with (go_at_call 56;refine (hcon _).mono ?_;rintro e w' ⟨rfl,rfl⟩)
  go_ret
  exact⟨rfl,0,_,by rw[alloc_eq_grow,alloc_eq_grow,grow_grow];rfl⟩
def lt (x y:D_count_Use):Bool:=decide (x.1<y.1)
theorem lt_cf (x y:D_count_Use):lt x y=decide (Lib.compareInt x.1 y.1<0):=by
  unfold lt Lib.compareInt
  by_cases h1:x.1<y.1
  · simp[h1]
  · by_cases h2:y.1<x.1<;>simp[h1,h2]
theorem swo:SWO lt:=by
  refine⟨λx => ?_,λx y z h1 h2 => ?_,λx y z h1 h2 => ?_⟩
  · unfold lt;simp
  · unfold lt at *; simp at *; omega
  · unfold lt at *; simp at *; omega
noncomputable def en:Entry:=sortEn 54 55 T_count_Use lt
theorem fst_cell {S:Nat→Prop}{W:World}{x:D_count_Use}{c:List Value}(h:Rd S W T_count_Use x c):c.toArray[0]?=some (.int .u64 x.1):=by
  obtain⟨c1,c2,e,h1,_⟩:=h
  have h1:c1=[.int .u64 x.1]:=h1
  subst e;subst h1
  simp
theorem ok:EntryOk Tryz.prog en:=
  sort_ok Tryz.sortUse (e:=T_count_Use) (tabIs 80 _ rfl).1 rfl rfl (cf:=λx y=>Lib.compareInt x.1 y.1) lt_cf swo (enters_of Tryz.func55 (by kernel_rfl) rfl)
    (λ_ W _ _ _ _ hx hy=>closure _ _ _ _ (fst_cell hx) (fst_cell hy) W) ⟨Tryz.f54,Tryz.func54,by kernel_rfl,by kernel_rfl⟩
end F_slices_SortFunc_Use
end Go.Proofs.YtemhlkdingkjnaaGreatDoor
namespace Go.Proofs.YtemhlkdingkjnaaGreatDoor
open Go Go.Va Go.Proofs
namespace F_count_Uses
abbrev ia:List Ai:=[.dat T_api_State]
abbrev io:List (Nat×Oi):=[(2,.dat (.slice T_count_Use))]
abbrev R:Type:=DOut ia io
noncomputable def X (n:Nat):Ctx:=⟨⟨tab,[F_count_all.en n,F_slices_SortFunc_Use.en,F_slices_Clip_Use.en n],0,[]⟩,55,bnOf 0 ia⟩
abbrev g1:List Si:=[.val 3 (.m 200300 (.int .u64) (.int .i64)),.val 4 (.r 200400 T_count_Use),.val 11 (.r 201100 T_count_says),.dat 12 (.int .i64),.dat 13 (.int .i64)]
abbrev g2:List Si:=[.val 3 (.m 200300 (.int .u64) (.int .i64)),.val 4 (.r 200400 T_count_Use),.dat 7 (.int .i64),.val 11 (.r 201100 T_count_says),.dat 12 (.int .i64),.dat 13 (.int .i64)]
abbrev g3:List Si:=[.val 4 (.r 200400 T_count_Use)]
noncomputable def T:CT:=(.s .o (.s .o (.s .o (.s (.s .o (.b (.l g1 (.s .o (.s .o (.s (.b (.s .o (.s .o (.s .o (.r g2 .o))))) .o)))))) (.r g3 .o)))))
noncomputable def J1 (n:Nat)(m:Nat):(List (Int×Int))×(List (D_count_Use))×(List (D_count_says))×Int×Int×Unit→Option R:=jL (X n) n T (bodyOf Tryz.f22) (endK ia io) g1 [1,1,1,0,1,0] [] m
noncomputable def J2 (n m1:Nat):(List (Int×Int))×(List (D_count_Use))×Int×(List (D_count_says))×Int×Int×Unit→Option R:=jR (X n) n T (bodyOf Tryz.f22) (endK ia io) g2 [1,1,1,0,1,0,0,1,1,0,0,1,1,1] [m1]
noncomputable def J3 (n:Nat):(List (D_count_Use))×Unit→Option R:=jR (X n) n T (bodyOf Tryz.f22) (endK ia io) g3 [1,1,1,1] []
noncomputable def f (n:Nat)(s_:D_api_State):Option R:=fRun (X n) n T Tryz.f22 ia io (s_,())
theorem e0 (n:Nat)(s_:D_api_State):f n s_ =
  bnd (F_count_all.f n s_) λu1=>
  J1 n n ([],[],u1.1,((u1.1.length:Nat):Int),0,()):=(hideF_eq _).trans (by kernel_rfl)
theorem e1 (n m:Nat) (at_:List (Int×Int)) (out:List (D_count_Use)) (t11:List (D_count_says)) (t12:Int) (t13:Int):J1 n (m+1) (at_,out,t11,t12,t13,()) =
  bIf ((hide (decide (t13<t12)))) (
    gIf (0≤t13∧t13<((t11.length:Nat):Int)) (
      bIf ((!((mGet (.int .u64) (.int .i64) at_ ((List.getD t11 (0+t13.toNat) (Va.dflt T_count_says)).1)).2))) (
        gIf ((out.length+1)*56≤70368744177664) (
          J2 n m ((mSet (.int .u64) (.int .i64) at_ ((List.getD t11 (0+t13.toNat) (Va.dflt T_count_says)).1) ((out.length:Nat):Int)),(out++([((List.getD t11 (0+t13.toNat) (Va.dflt T_count_says)).1,(0,(((List.getD t11 (0+t13.toNat) (Va.dflt T_count_says)).2).1,((((List.getD t11 (0+t13.toNat) (Va.dflt T_count_says)).2).2).1,()))))]:List (D_count_Use))),((out.length:Nat):Int),t11,t12,t13,())
          )
        ) (
        J2 n m (at_,out,(mGet (.int .u64) (.int .i64) at_ ((List.getD t11 (0+t13.toNat) (Va.dflt T_count_says)).1)).1,t11,t12,t13,())
        )
      )
    ) (
    J3 n (out,())
    ):=(hideF_eq _).trans (by kernel_rfl)
theorem e2 (n m1:Nat)(at_:List (Int×Int))(out:List (D_count_Use))(i:Int)(t11:List (D_count_says))(t12:Int)(t13:Int):J2 n m1 (at_,out,i,t11,t12,t13,()) =
  gIf (0≤i∧i<((out.length:Nat):Int)) (
    gIf (0≤i∧i<((out.length:Nat):Int)) (
      J1 n m1 (at_,(List.set out (0+i.toNat) ((List.getD out (0+i.toNat) (Va.dflt T_count_Use)).1,((IntKind.i64.wrap ((((List.getD out (0+i.toNat) (Va.dflt T_count_Use)).2).1)+(1:Int))),((List.getD out (0+i.toNat) (Va.dflt T_count_Use)).2).2))),t11,t12,(IntKind.i64.wrap (t13+(1:Int))),())
      )
    ):=(hideF_eq _).trans (by kernel_rfl)
theorem e3 (n:Nat)(out:List (D_count_Use)):J3 n (out,()) =
  gIf (out.length<4611686018427387904∧Part F_slices_SortFunc_Use.lt out) (
    bnd (F_slices_Clip_Use.f n (sortD F_slices_SortFunc_Use.lt out)) λu1=>
    some (u1.1,())
    ):=(hideF_eq _).trans (by kernel_rfl)
theorem phi (n:Nat):∀ e∈(X n).c.Φ,EntryOk Tryz.prog e:=allE_cons (mkEntry_ok (F_count_all.ok n)) (allE_cons (F_slices_SortFunc_Use.ok) (allE_cons (mkEntry_ok (F_slices_Clip_Use.ok n)) (allE_nil)))
theorem ok (n:Nat):FnOk Tryz.prog 22 ia io (fRun (X n) n T Tryz.f22 ia io):=tree_ok mixed tabIs (phi n) Tryz.func22 (by kernel_rfl) rfl
noncomputable def en (n:Nat):Entry:=mkEntry 22 ia io (fRun (X n) n T Tryz.f22 ia io)
end F_count_Uses
end Go.Proofs.YtemhlkdingkjnaaGreatDoor
namespace Go.Proofs.YtemhlkdingkjnaaGreatDoor
open Go Go.Va Go.Proofs
abbrev Dig:Type:=List Int
def digV (a:Dig):Value := .agg (a.map (Value.int .u8)).toArray
abbrev Grp:Type:=List (Dig×List Int)
def addG:Grp→Dig→Int→Grp
  | [],d,b=>[(d,[b])]
  | p::l,d,b=>if p.1=d then (p.1,p.2++[b])::l else p::addG l d b
def getG:Grp→Dig→List Int
  | [],_=>[]
  | p::l,d=>if p.1=d then p.2 else getG l d
theorem rd_dig {S:Nat→Prop}{w:World}{n:Nat}{a:Dig}{cs:List Value}(h:Rd S w (.arr n (.int .u8)) a cs):List.length (α:=Int) a=n∧cs=a.map (Value.int .u8):=by
  obtain⟨h1,h2⟩:=h
  refine⟨h1,?_⟩
  clear h1
  have:∀ (l:List Int) (cs:List Value),RdL (Rd S w (.int .u8)) l cs→cs=l.map (Value.int .u8):=by
    intro l
    induction l with
    | nil=>intro cs h;exact h
    | cons x l ih=>
      intro cs h
      obtain⟨c1,c2,e,g1,g2⟩:=h
      have g1:c1=[.int .u8 x]:=g1
      rw[e,g1,ih c2 g2];rfl
  exact this a cs h2
theorem dig_rd {S:Nat→Prop}{w:World}{n:Nat}{a:Dig}(h:a.length=n):Rd S w (.arr n (.int .u8)) a (a.map (Value.int .u8)):=by
  refine⟨h,?_⟩
  clear h
  have:∀ (l:List Int),RdL (Rd S w (.int .u8)) l (l.map (Value.int .u8)):=by
    intro l
    induction l with
    | nil=>exact rfl
    | cons x l ih=>exact⟨[.int .u8 x],_,rfl,rfl,ih⟩
  exact this a
theorem eqL_dec:∀ (a b:List Int),a.length=b.length→eqL (λx y:Int=>decide (x=y)) a b=decide (a=b)
  | [],[],_=>rfl
  | [],_::_,h=>absurd h (by simp)
  | _::_,[],h=>absurd h (by simp)
  | x::a,y::b,h=>by
    have ih:=eqL_dec a b (by simpa using h)
    change (decide (x=y)&&eqL (λx y:Int=>decide (x=y)) a b)=_
    rw[ih,← Bool.decide_and]
    exact decide_eq_decide.2 (by rw[List.cons.injEq])
theorem equal_dig {w:World}{a b:Dig}(ha:a.length=32)(hb:b.length=32):(Op.equal 47 (digV a) (digV b)).run Tryz.prog w = .ok (decide (a=b)) w:=by
  have h:=((equal_main (P:=Tryz.prog) (S:=λ_=>False) (w:=w) (.arr 32 (.int .u8))).1 200 10000 47 a b _ _ ((tyB_ok Tryz.prog (.arr 32 (.int .u8))).1 47 (by kernel_rfl)) rfl (by decide) (dig_rd ha) (dig_rd hb)).1
  have e:eqD (.arr 32 (.int .u8)) a b=decide (a=b):=eqL_dec a b (ha.trans hb.symm)
  rw[e]at h
  exact h
theorem ckey32 (em:Bool)(w:World)(x0 x1 x2 x3 x4 x5 x6 x7 x8 x9 x10 x11 x12 x13 x14 x15 x16 x17 x18 x19 x20 x21 x22 x23 x24 x25 x26 x27 x28 x29 x30 x31:Value) :
    (Instr.checkKey em 10000 47 (.agg #[x0,x1,x2,x3,x4,x5,x6,x7,x8,x9,x10,x11,x12,x13,x14,x15,x16,x17,x18,x19,x20,x21,x22,x23,x24,x25,x26,x27,x28,x29,x30,x31])).run Tryz.prog w = .ok () w:=by kernel_rfl
theorem ckey {em:Bool}{w:World}:∀ {a:Dig},a.length=32→(Instr.checkKey em 10000 47 (digV a)).run Tryz.prog w = .ok () w
  | [x0,x1,x2,x3,x4,x5,x6,x7,x8,x9,x10,x11,x12,x13,x14,x15,x16,x17,x18,x19,x20,x21,x22,x23,x24,x25,x26,x27,x28,x29,x30,x31],_=>ckey32 em w _ _ _ _ _ _ _ _ _ _ _ _ _ _ _ _ _ _ _ _ _ _ _ _ _ _ _ _ _ _ _ _
theorem same_dig (a:Dig):Instr.sameBits 10000 (digV a) (digV a)=true:=by
  unfold digV Instr.sameBits
  simp only[beq_self_eq_true,Bool.true_and,List.all_eq_true]
  intro p hp
  obtain⟨x,y⟩:=p
  have:∀ (l:List Value) (x y:Value),(x,y)∈l.zip l→x=y∧x∈l:=by
    intro l
    induction l with
    | nil=>intro x y h;simp at h
    | cons z l ih=>
      intro x y h
      rw[List.zip_cons_cons,List.mem_cons]at h
      rcases h with h | h
      · injection h with h1 h2;subst h1;subst h2;exact⟨rfl,by simp⟩
      · obtain⟨h1,h2⟩:=ih x y h;exact⟨h1,by simp[h2]⟩
  obtain⟨h1,h2⟩:=this _ x y hp
  subst h1
  obtain⟨z,_,rfl⟩:=List.mem_map.1 (by simpa using h2)
  unfold Instr.sameBits
  simp
def EntG (w:World)(base:Nat)(p:Dig×List Int)(e:MapEntry):Prop:=p.1.length=32∧e.key=digV p.1∧w.ownsRow base 22 1 e.val p.2.length (p.2.map (Value.int .u64))
def Apart (x y:MapEntry):Prop:=x.born≠y.born∧(x.val.ownBlock=none∨x.val.ownBlock≠y.val.ownBlock)
theorem Apart.symm {x y:MapEntry}(h:Apart x y):Apart y x:=by
  refine⟨Ne.symm h.1,?_⟩
  rcases h.2 with h2 | h2
  · cases hy:y.val.ownBlock with
    | none=>exact .inl rfl
    | some g=>right;rw[h2];simp
  · exact .inr (Ne.symm h2)
structure GrpOk (w:World)(M base:Nat)(G:Grp)(es:Array MapEntry)(clk:Nat):Prop where
  obj:w.heap[M]?=some (.map es clk)
  low:M<base
  len:es.toList.length=G.length
  ent:∀ (i:Nat) p e,G[i]?=some p→es.toList[i]?=some e→EntG w base p e
  born:∀ e∈es.toList,e.born<clk
  apart:es.toList.Pairwise Apart
def GRel (w:World)(M base:Nat)(G:Grp):Prop:=∃ es clk,GrpOk w M base G es clk
theorem GRel.new (w:World)(base:Nat)(h:w.heap.size<base):GRel (w.alloc (.map #[] 0)) w.heap.size base []:=
  ⟨#[],0,by show (w.heap.push _)[w.heap.size]?=_;simp,h,rfl,λi p e hp=>by simp at hp,λe he=>by simp at he,.nil⟩
theorem EntG.kept {w w':World}{base:Nat}{p:Dig×List Int}{e:MapEntry}{row:Option Nat}(h:EntG w base p e)(hg:w.grownBy w' row)(hne:e.val.ownBlock=none∨e.val.ownBlock≠row):EntG w' base p e:=
  ⟨h.1,h.2.1,h.2.2.kept hg hne⟩
theorem GRel.grow {w w':World}{M base:Nat}{G:Grp}(h:GRel w M base G)(hg:w.grownBy w' none):GRel w' M base G:=by
  obtain⟨es,clk,h⟩:=h
  have hM:M<w.heap.size:=(Array.getElem?_eq_some_iff.1 h.obj).1
  refine⟨es,clk,(hg.block M hM (by simp)).trans h.obj,h.low,h.len,λi p e hp he=>(h.ent i p e hp he).kept hg ?_,h.born,h.apart⟩
  cases e.val.ownBlock with
  | none=>exact .inl rfl
  | some g=>right;simp
theorem asking {w w0:World} {base:Nat} {d:Dig} (hd:d.length=32):∀ (G:Grp) (es:List MapEntry) (i:Nat),es.length=G.length→(∀ (i:Nat) p e,G[i]?=some p→es[i]?=some e→EntG w0 base p e) →
    ((Instr.findAsking 47 (digV d) es i).run Tryz.prog w = .ok none w∧getG G d=[]∧(∀ b,addG G d b=G++[(d,[b])])) ∨
    ∃ j e g,(Instr.findAsking 47 (digV d) es i).run Tryz.prog w = .ok (some (i+j,e.val)) w∧es[j]?=some e∧G[j]?=some (d,g)∧getG G d=g∧∀ b,addG G d b=G.set j (d,g++[b])
  | [],[],i,_,_ => .inl ⟨rfl,rfl,λ_=>rfl⟩
  | [],_::_,_,h,_=>absurd h (by simp)
  | _::_,[],_,h,_=>absurd h (by simp)
  | p :: G,e::es,i,h,he=>by
    obtain⟨h1,h2,_⟩:=he 0 p e rfl rfl
    unfold Instr.findAsking getG addG
    rw[h2,Sem.run_bind,equal_dig hd h1,Result.andThen_ok]
    by_cases hp:d=p.1
    · subst hp
      refine .inr ⟨0,e,p.2,?_,rfl,rfl,by rw[if_pos rfl],λb=>by rw[if_pos rfl];rfl⟩
      rw[decide_eq_true rfl,if_pos rfl];rfl
    · rw[decide_eq_false hp,if_neg (by decide)]
      have hp':¬ p.1=d:=λe=>hp e.symm
      rcases asking hd G es (i+1) (by simpa using h) (λj q x hq hx=>he (j+1) q x (by simpa using hq) (by simpa using hx)) with ⟨g1,g2,g3⟩ | ⟨j,x,g,g1,g2,g3,g4,g5⟩
      · exact .inl ⟨g1,by rw[if_neg hp'];exact g2,λb=>by rw[if_neg hp',g3];rfl⟩
      · refine .inr ⟨j+1,x,g,?_,by simpa using g2,by simpa using g3,by rw[if_neg hp'];exact g4,λb=>by rw[if_neg hp',g5];rfl⟩
        rw[show i+(j+1)=i+1+j by omega];exact g1
theorem find_dig {w w0:World} {base:Nat} {d:Dig} (hd:d.length=32) (G:Grp) (es:List MapEntry) (h:es.length=G.length) (he:∀ (i:Nat) p e,G[i]?=some p→es[i]?=some e→EntG w0 base p e) :
    ((Instr.findKey 47 (digV d) es).run Tryz.prog w = .ok none w∧getG G d=[]∧(∀ b,addG G d b=G++[(d,[b])])) ∨
    ∃ j e g,(Instr.findKey 47 (digV d) es).run Tryz.prog w = .ok (some (j,e.val)) w∧es[j]?=some e∧G[j]?=some (d,g)∧getG G d=g∧∀ b,addG G d b=G.set j (d,g++[b]):=by
  have hu:∃ u,Tryz.prog.underlying 47=some (.array 32 u):=by
    obtain⟨⟨u,hu,_⟩,_⟩:=(tyB_ok Tryz.prog (.arr 32 (.int .u8))).1 47 (by kernel_rfl)
    exact⟨u,hu⟩
  obtain⟨u,hu⟩:=hu
  have hx:=asking (w:=w) hd G es 0 h he
  cases es with
  | nil=>
    cases G with
    | nil=>
      refine .inl ⟨?_,rfl,λ_=>rfl⟩
      unfold Instr.findKey
      simp only[Sem.run_bind,run_underlying hu,Result.andThen_ok,Instr.findNow,Sem.run_pure]
    | cons _ _=>simp at h
  | cons e es=>
    have hf:(Instr.findKey 47 (digV d) (e::es)).run Tryz.prog w=(Instr.findAsking 47 (digV d) (e::es) 0).run Tryz.prog w:=by
      unfold Instr.findKey
      have hn:Instr.findNow (.array 32 u) (digV d) (e::es) 0=none:=by
        unfold Instr.findNow
        have:Instr.sameNow (.array 32 u) (digV d) e.key=none:=by unfold Instr.sameNow;rfl
        rw[this]
      simp only[Sem.run_bind,run_underlying hu,Result.andThen_ok,hn]
    rw[hf]
    simp only[Nat.zero_add]at hx
    exact hx
structure GAt (w:World)(M base:Nat)(G:Grp)(j st:Nat)(v:Value)(es:Array MapEntry)(clk:Nat):Prop extends GrpOk w M base G es clk where
  here:∃ e,es.toList[j]?=some e∧e.born=st∧e.val=v
theorem under129:Tryz.prog.underlying 129=some (.map 47 83):=by kernel_rfl
theorem zero83 (w:World):(zeroValue 83).run Tryz.prog w = .ok (.slice none 0 0) w:=by kernel_rfl
theorem mapEntry_grp {w:World} {M base:Nat} {G:Grp} {d:Dig} (h:GRel w M base G) (hd:d.length=32) :
    ∃ v st w1 G1 j g es clk,(Instr.mapEntry 129 (.map (some M)) (digV d)).run Tryz.prog w = .ok (.tuple #[v,goInt (st:Nat)]) w1∧w.grownBy w1 (some M)∧w1.heap.size=w.heap.size∧GAt w1 M base G1 j st v es clk∧G1[j]?=some (d,g)∧(∀ b,G1.set j (d,g++[b])=addG G d b) ∧
      w1.ownsRow base 22 1 v g.length (g.map (Value.int .u64))∧g=getG G d:=by
  obtain⟨es,clk,h⟩:=h
  have hM:M<w.heap.size:=(Array.getElem?_eq_some_iff.1 h.obj).1
  have own_ne:∀ {base:Nat} {v:Value} {n:Nat} {xs:List Value},M<base→w.ownsRow base 22 1 v n xs→v.ownBlock=none∨v.ownBlock≠some M:=fun {base v n xs} hb ho=>by
    cases hv:v.ownBlock with
    | none=>exact .inl rfl
    | some g=>
      refine .inr λe => ?_
      injection e with e
      have:=(ho.lt g hv).1
      omega
  have grown:∀ (es':Array MapEntry) (clk':Nat),w.grownBy { w with heap:=w.heap.setIfInBounds M (.map es' clk') } (some M):=λes' clk'=>by
    refine⟨rfl,rfl,rfl,by simp,λk hk hne => ?_⟩
    show (w.heap.setIfInBounds M _)[k]?=_
    rw[Array.getElem?_setIfInBounds,if_neg (λe=>hne (by rw[e]))]
  have obj':∀ (es':Array MapEntry) (clk':Nat),({ w with heap:=w.heap.setIfInBounds M (.map es' clk') }:World).heap[M]?=some (.map es' clk'):=λes' clk'=>by
    show (w.heap.setIfInBounds M _)[M]?=_
    rw[Array.getElem?_setIfInBounds,if_pos rfl,if_pos hM]
  rcases find_dig (w:=w) hd G es.toList h.len h.ent with ⟨g1,g2,g3⟩ | ⟨j,e,g,g1,g2,g3,g4,g5⟩
  · refine⟨.slice none 0 0,clk,{ w with heap:=w.heap.setIfInBounds M (.map (es.push { key:=digV d,val := .slice none 0 0,born:=clk }) (clk+1)) },G++[(d,[])],G.length,[],es.push { key:=digV d,val := .slice none 0 0,born:=clk },clk+1,?_,grown _ _,by simp,?_,by simp,λb => ?_,World.ownsRow_nil _ _ _ _,g2.symm⟩
    · unfold Instr.mapEntry
      simp only[Sem.run_bind,run_underlying under129,Result.andThen_ok,run_getMap h.obj,ckey hd,g1,zero83,run_setMap _ h.obj,Sem.run_pure]
    · refine⟨⟨obj' _ _,h.low,by simp[h.len],λi p e hp he => ?_,λe he => ?_,?_⟩,⟨_,by rw[Array.toList_push,List.getElem?_append_right (by rw[h.len];omega),h.len,Nat.sub_self];rfl,rfl,rfl⟩⟩
      · rw[Array.toList_push]at he
        by_cases hi:i<G.length
        · rw[List.getElem?_append_left hi]at hp
          rw[List.getElem?_append_left (by rw[h.len];exact hi)]at he
          have:=h.ent i p e hp he
          exact this.kept (grown _ _) (own_ne h.low this.2.2)
        · rw[List.getElem?_append_right (by omega)]at hp
          rw[List.getElem?_append_right (by rw[h.len];omega),h.len]at he
          cases hk:i-G.length with
          | zero=>
            rw[hk]at hp he
            injection hp with hp;injection he with he
            subst hp;subst he
            exact⟨hd,rfl,World.ownsRow_nil _ _ _ _⟩
          | succ k=>rw[hk]at hp;simp at hp
      · rw[Array.toList_push]at he
        rcases List.mem_append.1 he with he | he
        · have:=h.born e he;omega
        · rw[show e=_ by simpa using he];exact Nat.lt_succ_self _
      · rw[Array.toList_push,List.pairwise_append]
        refine⟨h.apart,List.pairwise_singleton _ _,λx hx y hy => ?_⟩
        rw[show y=_ by simpa using hy]
        have:=h.born x hx
        refine⟨by show x.born≠clk;omega,?_⟩
        cases x.val.ownBlock with
        | none=>exact .inl rfl
        | some g=>right;simp[Value.ownBlock]
    · rw[g3,List.set_append_right _ _ (Nat.le_refl _),Nat.sub_self];rfl
  · have hea:es[j]?=some e:=by rw[← Array.getElem?_toList];exact g2
    obtain⟨k1,k2,k3⟩:=h.ent j _ e g3 g2
    have hmod:∀ {f:MapEntry→MapEntry},f e=e→(es.modify j f)=es:=fun {f} hf=>by
      apply Array.ext_getElem?
      intro i
      rw[Array.getElem?_modify]
      split
      · next hij=>subst hij;rw[hea,Option.map_some,hf]
      · rfl
    refine⟨e.val,e.born,{ w with heap:=w.heap.setIfInBounds M (.map es clk) },G,j,g,es,clk,?_,grown _ _,by simp,?_,g3,λb=>(g5 b).symm,k3.kept (grown _ _) (own_ne h.low k3),g4.symm⟩
    · have hst:(Instr.keyThatStays ((es[j]?.map λx=>x.key).getD (digV d)) (digV d)).run Tryz.prog w = .ok (digV d) w:=by
        unfold Instr.keyThatStays
        rw[hea,Option.map_some,Option.getD_some,k2,same_dig,if_pos rfl];rfl
      unfold Instr.mapEntry
      simp only[Sem.run_bind,run_underlying under129,Result.andThen_ok,run_getMap h.obj,ckey hd,g1,hst,run_setMap _ h.obj,Sem.run_pure]
      rw[hmod (f:=λe=>{ e with key:=digV d }) (by rw[← k2]),hea]
      rfl
    · refine⟨⟨obj' _ _,h.low,h.len,λi p e hp he => ?_,h.born,h.apart⟩,⟨e,g2,rfl,rfl⟩⟩
      have:=h.ent i p e hp he
      exact this.kept (grown _ _) (own_ne h.low this.2.2)
theorem entryStore_grp {w w2:World} {M base:Nat} {G:Grp} {j st:Nat} {v v':Value} {es:Array MapEntry} {clk:Nat} {d:Dig} {g g':List Int} (h:GAt w M base G j st v es clk) (hj:G[j]?=some (d,g)) (hg:w.grownBy w2 v.ownBlock)
    (ho:w2.ownsRow base 22 1 v' g'.length (g'.map (Value.int .u64))) (hb:v'.ownBlock=v.ownBlock∨v'.ownBlock=some w.heap.size) :
    ∃ w3,(Instr.entryStore 129 (.map (some M)) (goInt (st:Nat)) v').run Tryz.prog w2 = .ok () w3∧GRel w3 M base (G.set j (d,g'))∧w2.grownBy w3 (some M):=by
  have hM:M<w.heap.size:=(Array.getElem?_eq_some_iff.1 h.obj).1
  obtain⟨e,he,hbn,hv⟩:=h.here
  have hvM:v.ownBlock≠some M:=λhv2=>by
    obtain⟨_,_,k3⟩:=h.ent j _ e hj he
    have:=(k3.lt M (by rw[hv];exact hv2)).1
    have:=h.low
    omega
  have hobj2:w2.heap[M]?=some (.map es clk):=(hg.block M hM (λe=>hvM e.symm)).trans h.obj
  have hjl:j<es.size:=by
    have:=(List.getElem?_eq_some_iff.1 he).1
    rwa [Array.length_toList]at this
  have hea:es[j]?=some e:=by rw[← Array.getElem?_toList];exact he
  have hej:es[j]=e:=by rw[Array.getElem?_eq_getElem hjl]at hea;injection hea
  have other:∀ i x,es.toList[i]?=some x→i≠j→Apart x e:=λi x hx hij=>by
    have hp:=List.pairwise_iff_getElem.1 h.apart
    obtain⟨hi,rfl⟩:=List.getElem?_eq_some_iff.1 hx
    obtain⟨hj2,hje⟩:=List.getElem?_eq_some_iff.1 he
    rcases Nat.lt_or_ge i j with hlt | hge
    · have:=hp i j hi hj2 hlt;rwa [hje]at this
    · have:=hp j i hj2 hi (by omega);rw[hje]at this;exact this.symm
  have hidx:es.findIdx? (λx=>(x.born:Int)==(st:Int))=some j:=by
    rw[Array.findIdx?_eq_some_iff_getElem]
    refine⟨hjl,by rw[hej,hbn];exact beq_self_eq_true _,λi hi => ?_⟩
    have hil:i<es.size:=by omega
    have:=(other i es[i] (by rw[Array.getElem?_toList,Array.getElem?_eq_getElem hil]) (by omega)).1
    rw[hbn]at this
    simp only[beq_iff_eq]
    omega
  have grown:∀ (es':Array MapEntry) (clk':Nat),w2.grownBy { w2 with heap:=w2.heap.setIfInBounds M (.map es' clk') } (some M):=λes' clk'=>by
    refine⟨rfl,rfl,rfl,by simp,λk hk hne => ?_⟩
    show (w2.heap.setIfInBounds M _)[k]?=_
    rw[Array.getElem?_setIfInBounds,if_neg (λe=>hne (by rw[e]))]
  have hM2:M<w2.heap.size:=(Array.getElem?_eq_some_iff.1 hobj2).1
  have own_ne:∀ {v:Value} {n:Nat} {xs:List Value},w2.ownsRow base 22 1 v n xs→v.ownBlock=none∨v.ownBlock≠some M:=fun {v n xs} ho=>by
    cases hv:v.ownBlock with
    | none=>exact .inl rfl
    | some g=>
      refine .inr λe => ?_
      injection e with e
      have:=(ho.lt g hv).1
      have:=h.low
      omega
  have htl:(es.modify j λe=>{ e with val:=v' }).toList=es.toList.set j { e with val:=v' }:=by
    apply List.ext_getElem?
    intro i
    rw[Array.getElem?_toList,Array.getElem?_modify,List.getElem?_set,Array.length_toList]
    by_cases hij:j=i
    · subst hij;rw[if_pos rfl,if_pos rfl,if_pos hjl,hea];rfl
    · rw[if_neg hij,if_neg hij,Array.getElem?_toList]
  have newApart:∀ i x,es.toList[i]?=some x→i≠j→Apart x { e with val:=v' }:=λi x hx hij=>by
    obtain⟨a1,a2⟩:=other i x hx hij
    refine⟨a1,?_⟩
    show x.val.ownBlock=none∨x.val.ownBlock≠v'.ownBlock
    rcases hb with hb | hb
    · rw[hb,← hv];exact a2
    · rw[hb]
      cases hxo:x.val.ownBlock with
      | none=>exact .inl rfl
      | some q=>
        right
        obtain⟨hi,_⟩:=List.getElem?_eq_some_iff.1 hx
        have hiG:i<G.length:=by rw[← h.len];exact hi
        obtain⟨_,_,k3⟩:=h.ent i _ x (List.getElem?_eq_getElem hiG) hx
        have:=(k3.lt q hxo).2
        intro e;injection e with e;omega
  refine⟨{ w2 with heap:=w2.heap.setIfInBounds M (.map (es.modify j λe=>{ e with val:=v' }) clk) },?_,⟨es.modify j λe=>{ e with val:=v' },clk,?_,h.low,by rw[htl,List.length_set,List.length_set];exact h.len,λi p x hp hx => ?_,λx hx => ?_,?_⟩,grown _ _⟩
  · have hidx':es.findIdx? (λx=>(x.born:Int)==((st:Nat):Int))=some j:=hidx
    unfold Instr.entryStore
    have hai:∀ w:World,(asInt (goInt (st:Nat))).run Tryz.prog w = .ok ((st:Nat):Int) w:=λw=>rfl
    simp only[Sem.run_bind,Result.andThen_ok,run_getMap hobj2,hai,hidx',run_setMap _ hobj2]
  · show (w2.heap.setIfInBounds M _)[M]?=_
    rw[Array.getElem?_setIfInBounds,if_pos rfl,if_pos hM2]
  · rw[htl]at hx
    by_cases hij:i=j
    · subst hij
      rw[List.getElem?_set_self (by rw[Array.length_toList];exact hjl)]at hx
      rw[List.getElem?_set_self (List.getElem?_eq_some_iff.1 hj).1]at hp
      injection hx with hx;injection hp with hp
      subst hx;subst hp
      obtain⟨k1,k2,_⟩:=h.ent i _ e hj he
      exact⟨k1,k2,ho.kept (grown _ _) (own_ne ho)⟩
    · rw[List.getElem?_set_ne (λe=>hij e.symm)]at hx hp
      have k:=h.ent i p x hp hx
      have k':EntG w2 base p x:=k.kept hg (by rw[← hv];exact (other i x hx hij).2)
      exact k'.kept (grown _ _) (own_ne k'.2.2)
  · rw[htl]at hx
    rcases List.mem_or_eq_of_mem_set hx with hx | hx
    · exact h.born x hx
    · rw[hx];exact h.born e (List.mem_of_getElem? he)
  · rw[htl,List.pairwise_iff_getElem]
    intro i k hi hk hik
    have hil:i<es.toList.length:=by rw[List.length_set]at hi;exact hi
    have hkl:k<es.toList.length:=by rw[List.length_set]at hk;exact hk
    rw[List.getElem_set,List.getElem_set]
    by_cases h1:j=i
    · rw[if_pos h1,if_neg (by omega)]
      exact (newApart k _ (List.getElem?_eq_getElem hkl) (by omega)).symm
    · rw[if_neg h1]
      by_cases h2:j=k
      · rw[if_pos h2]
        exact newApart i _ (List.getElem?_eq_getElem hil) (by omega)
      · rw[if_neg h2]
        exact List.pairwise_iff_getElem.1 h.apart i k hil hkl hik
theorem lookup_grp {w:World}{M base:Nat}{G:Grp}{d:Dig}(h:GRel w M base G)(hd:d.length=32) :
    ∃ v,(Instr.lookup 129 (.map (some M)) (digV d) false).run Tryz.prog w = .ok v w∧w.ownsRow base 22 1 v (getG G d).length ((getG G d).map (Value.int .u64)):=by
  obtain⟨es,clk,h⟩:=h
  rcases find_dig (w:=w) hd G es.toList h.len h.ent with ⟨g1,g2,g3⟩ | ⟨j,e,g,g1,g2,g3,g4,g5⟩
  · refine⟨.slice none 0 0,?_,by rw[g2];exact World.ownsRow_nil _ _ _ _⟩
    unfold Instr.lookup
    simp only[Sem.run_bind,run_underlying under129,Result.andThen_ok,run_getMap h.obj,ckey hd,g1,zero83,Sem.run_pure]
    rfl
  · refine⟨e.val,?_,by rw[g4];exact (h.ent j _ e g3 g2).2.2⟩
    unfold Instr.lookup
    simp only[Sem.run_bind,run_underlying under129,Result.andThen_ok,run_getMap h.obj,ckey hd,g1,Sem.run_pure]
    rfl
end Go.Proofs.YtemhlkdingkjnaaGreatDoor
namespace Go.Proofs.YtemhlkdingkjnaaGreatDoor
open Go Go.Va Go.Proofs Go.RowKit
def useCells (u:D_count_Use):List Value := .int .u64 u.1 :: .int .i64 u.2.1 :: .int .i64 u.2.2.1::u.2.2.2.1.map (Value.int .u8)
theorem rd_use {S:Nat→Prop}{w:World}{u:D_count_Use}{cs:List Value}(h:Rd S w T_count_Use u cs):cs=useCells u∧u.2.2.2.1.length=32:=by
  obtain⟨c1,c2,e,h1,d1,d2,e2,h2,f1,f2,e3,h3,g1,g2,e4,h4,h5⟩:=h
  have h1:c1=[.int .u64 u.1]:=h1
  have h2:d1=[.int .i64 u.2.1]:=h2
  have h3:f1=[.int .i64 u.2.2.1]:=h3
  have h5:g2=[]:=h5
  obtain⟨k1,k2⟩:=rd_dig h4
  refine⟨?_,k1⟩
  rw[e,e2,e3,e4,h1,h2,h3,h5,k2,List.append_nil]
  rfl
theorem useCells_len {u:D_count_Use}(h:u.2.2.2.1.length=32):(useCells u).length=35:=by
  unfold useCells;simp[h]
theorem uses_calls {n:Nat}{s:D_api_State}{U:List D_count_Use}(h:F_count_Uses.f n s=some (U,())){w:World}{S:Nat→Prop}(hS:∀ b,S b→b<w.heap.size)
    (hgl:(∀ p∈Gl.tab,S p.1∧∃ cs,p.2 cs∧At w ⟨p.1,0,none⟩ cs)∧∀ p∈Gl.ex,S p.1∧∃ o,w.heap[p.1]?=some o∧p.2 o) {c:Array Value} (hr:Rd S w T_api_State s c.toList) :
    Calls Tryz.prog 22 #[.agg c] w λen w'=>Grow w w'∧∃ sl cap,en = .returned (.slice sl U.length cap)∧(U=[]∨∃ bk o,sl=some ⟨bk,o,none⟩∧(S bk∨w.heap.size≤bk)∧bk<w'.heap.size ∧
      ∀ (k:Nat) u,U[k]?=some u→u.2.2.2.1.length=32∧At w' ⟨bk,o+k*35,none⟩ (useCells u)):=by
  let E:Env:=⟨λ_=>none,λ_=>none,λ_=>False,S⟩
  have hh:HREL (λb=>b<w.heap.size) S E (heapOf (inSig 0 F_count_Uses.ia) (s,())) w:=by
    have e:heapOf (inSig 0 F_count_Uses.ia) (s,())=λ_ => .un:=rfl
    rw[e]
    exact⟨λr=>⟨id,rfl⟩,λr r' b h=>by simp[Ent.isLive]at h,λr b h=>by simp[Ent.isLive]at h,hS,λb h=>h,λb hb => .inl hb,hgl⟩
  have hc:C E w (listAV (argAVs 0 F_count_Uses.ia (s,()))) [.agg c]:=by
    refine⟨.agg c,[],rfl,?_,rfl⟩
    exact (V_agg (E:=E) (by rfl)).2 ⟨c,rfl,hr⟩
  have:=(F_count_Uses.ok n).run (s,()) _ h _ _ E w [.agg c] hh hc
  refine this.mono ?_
  rintro en w' ⟨E',x,rfl,g1,g2,g3⟩
  refine⟨⟨g2.keepP.os,g2.keepP.tape,g2.keepP.output,g2.keepP.size,λb hb=>g2.keepP.block b hb hb⟩,?_⟩
  have g3:V E' w' (.data (.slice T_count_Use) U) x:=g3
  obtain⟨a,cap,rfl,hcap,hd⟩:=V_slice.1 g3
  refine⟨a,cap,rfl,?_⟩
  rcases hd with hd | ⟨ad,rfl,hSd,cells,k1,k2⟩
  · exact .inl hd
  · obtain⟨ab,ao,asp⟩:=ad
    have has:asp=none:=k2.1
    subst has
    refine .inr ⟨ab,ao,rfl,?_,g1.sIn _ hSd,λk u hk => ?_⟩
    · rcases g1.s0 _ hSd with q | q
      · exact .inl q
      · exact .inr (Nat.le_of_not_lt q)
    · obtain⟨hk1,hk2⟩:=List.getElem?_eq_some_iff.1 hk
      obtain⟨c1,c',c2,m1,m2,m3,_,_⟩:=RdL.get (λx c=>Rd.length E'.S w' T_count_Use x c) U cells k1 k hk1
      rw[hk2]at m3
      obtain⟨r1,r2⟩:=rd_use m3
      rw[m1]at k2
      have hp:=At.part k2
      rw[m2]at hp
      rw[r1]at hp
      exact⟨r2,hp⟩
def grpOf (l:List D_count_Use):Grp:=l.foldl (λG u=>addG G u.2.2.2.1 u.1) []
section
variable {ops:Array Oper} {rest:List Oper} {o:Oper} {a:Act} {Q:Exit→Act→World→Prop}
theorem wpList_mapEntry_grp {w:World}(hg:o.guard=none)(m x:Operand)(hop:o.op=Op.mapEntry 129 m x){M base:Nat}{G:Grp}{d:Dig}(hm:a.eval m = .map (some M))(hx:a.eval x=digV d)(h:GRel w M base G)(hd:d.length=32)
    (hK:∀ v st w1 G1 j g es clk,w.grownBy w1 (some M)→w1.heap.size=w.heap.size→GAt w1 M base G1 j st v es clk→G1[j]?=some (d,g)→(∀ b,G1.set j (d,g++[b])=addG G d b)→w1.ownsRow base 22 1 v g.length (g.map (Value.int .u64))→g=getG G d →
      wpList Tryz.prog ops Q rest (a.put o.dst (.tuple #[v,goInt (st:Nat)])) w1):wpList Tryz.prog ops Q (o::rest) a w:=by
  refine wpList_plain hg λK' hK' => ?_
  obtain⟨v,st,w1,G1,j,g,es,clk,hrun,h1,h2,h3,h4,h5,h6,h7⟩:=mapEntry_grp h hd
  unfold Oper.wp
  simp[execOp,hop,hm,hx,hrun,Result.andThen]
  exact hK' _ _ (hK v st w1 G1 j g es clk h1 h2 h3 h4 h5 h6 h7)
end
end Go.Proofs.YtemhlkdingkjnaaGreatDoor
namespace Go.Proofs.YtemhlkdingkjnaaGreatDoor
open Go Go.Va Go.Proofs Go.RowKit
theorem row_cells {w:World}{a:Addr}{C:Array Value}{N:Nat}(hl:C.size=N)(h:At w a C.toList):(loadCellsFrom a 0 N #[]).run Tryz.prog w = .ok C w:=by
  have:=run_loadCells_at (P:=Tryz.prog) h
  rw[Array.toArray_toList,Array.length_toList,hl]at this
  exact this
theorem row_copy (wr:World){T N:Nat}{Z C:Array Value}(hz:Z.size=N)(hl:C.size=N)(h1:∀ v∈C.toList,v.oneCell'=true):∃ (w2:World),
    (storeCells ⟨wr.heap.size,0,none⟩ C.toList).run Tryz.prog (wr.alloc (.cells Z T)) = .ok () w2 ∧
    Grow wr w2∧w2.heap.size=wr.heap.size+1∧w2.heap[wr.heap.size]?=some (.cells C T (0,0)):=by
  have hzl:Z.toList.length=N:=by simpa using hz
  have hll:C.toList.length=N:=by simpa using hl
  have hb0:(wr.alloc (.cells Z T)).heap[wr.heap.size]?=some (.cells Z.toList.toArray T (0,0)):=by
    rw[Array.toArray_toList];exact heap_alloc_new wr _
  obtain⟨w2,g1,g2,g3⟩:=run_storeCells (P:=Tryz.prog) C.toList 0 (wr.alloc (.cells Z T)) wr.heap.size 0 Z.toList T (0,0) hb0 (.inl rfl) (by rw[hzl,hll];omega) h1
  have hsz:(wr.alloc (.cells Z T)).heap.size=wr.heap.size+1:=by show (wr.heap.push _).size=_;simp
  have g4:w2.heap[wr.heap.size]?=some (.cells C T (0,0)):=by
    rw[g3,hll,Nat.zero_add,Nat.zero_add,List.take_zero,List.nil_append,List.drop_of_length_le (by omega),List.append_nil,Array.toArray_toList]
  exact⟨w2,g1,⟨g2.os,g2.tape,g2.output,by rw[g2.size,hsz];omega,λb hb=>(g2.block b (by omega)).trans (heap_alloc_old wr _ hb)⟩,by rw[g2.size,hsz],g4⟩
theorem grownOf {a b:World}(h:Grow a b)(row:Option Nat):a.grownBy b row:=⟨h.os,h.tape,h.output,h.size,λk hk _=>h.block k hk⟩
theorem ne_nil_of {α:Type}{l:List α}{k:Nat}(h:k<l.length):¬ l=[]:=λe=>by rw[e]at h;exact absurd h (Nat.not_lt_zero _)
theorem dec_lt {k m:Nat}(h:k<m):decide ((k:Int)<(m:Int))=true:=decide_eq_true (Int.ofNat_lt.2 h)
theorem dec_nlt {k m:Nat}(h:¬ k<m):decide ((k:Int)<(m:Int))=false:=decide_eq_false (λhh=>h (Int.ofNat_lt.1 hh))
theorem meas_up {k m:Nat}(h:k<m):m-(intOf (Value.int .i64 ((k+1:Nat):Int))).toNat<m-(intOf (Value.int .i64 (k:Int))).toNat:=by
  show m-((k+1:Nat):Int).toNat<m-(k:Int).toNat
  rw[Int.toNat_natCast,Int.toNat_natCast];omega
theorem wrap_up {k m:Nat}(h:k<m)(hm:m≤140737488355328):wrap64 ((k:Int)+1)=((k+1:Nat):Int):=by
  rw[show (k:Int)+1=((k+1:Nat):Int) by omega]
  exact IntWalk.wrap64_in _ ⟨by omega,by omega⟩
theorem len_lt {α:Type}{l:List α}{k:Nat}(h:k<l.length):∃ a,l[k]?=some a:=⟨l[k],List.getElem?_eq_getElem h⟩
theorem grp_take {U:List D_count_Use}{k:Nat}{u:D_count_Use}(h:U[k]?=some u):grpOf (U.take (k+1))=addG (grpOf (U.take k)) u.2.2.2.1 u.1:=by
  obtain⟨h5,h6⟩:=List.getElem?_eq_some_iff.1 h
  rw[List.take_succ_eq_append_getElem h5,h6]
  unfold grpOf
  rw[List.foldl_append];rfl
theorem tyUse:TyIs Tryz.prog T_count_Use 80:=(tyB_ok Tryz.prog T_count_Use).1 80 (by kernel_rfl)
theorem tyDig:TyIs Tryz.prog (.arr 32 (.int .u8)) 47:=(tyB_ok Tryz.prog (.arr 32 (.int .u8))).1 47 (by kernel_rfl)
structure AggT (T N:Nat)(Z:Array Value):Prop where
  agg:∀ w,(isAgg T).run Tryz.prog w = .ok true w
  size:∀ w,(Go.sizeOf T).run Tryz.prog w = .ok N w
  zero:∀ w,(zeroValue T).run Tryz.prog w = .ok (.agg Z) w
  z:Z.size=N
theorem useTy:∃ T N Z,T=80∧N=35∧AggT T N Z:=⟨80,35,_,rfl,rfl,λw=>Go.Va.run_isAgg tyUse,λw=>Go.Va.run_sizeOf tyUse,Tryz.zeroValue80,rfl⟩
theorem digTy:∃ T N Z,T=47∧N=32∧AggT T N Z:=⟨47,32,_,rfl,rfl,λw=>Go.Va.run_isAgg tyDig,λw=>Go.Va.run_sizeOf tyDig,Tryz.zeroValue47,rfl⟩
theorem info22:(Tryz.prog.info? 22).map (λi=>(i.zero,i.size,i.bytes))=some (some (.int .u64 0),1,8):=by kernel_rfl
theorem at_block {w w':World}{a:Addr}{cs:List Value}(h:w'.heap[a.block]?=w.heap[a.block]?)(k:At w a cs):At w' a cs:=by
  unfold At at k ⊢
  refine⟨k.1,λj hj => ?_⟩
  have:=k.2 j hj
  unfold World.cell? at this ⊢
  simpa[h]using this
theorem use_one (u:D_count_Use):∀ v∈(useCells u).toArray.toList,v.oneCell'=true:=by
  intro v hv
  have hv:v∈useCells u:=by simpa using hv
  unfold useCells at hv
  simp only[List.mem_cons,List.mem_map]at hv
  rcases hv with rfl | rfl | rfl | ⟨x,_,rfl⟩<;>rfl
theorem belowM {a b c:World}{M:Nat}(h:Below a.heap.size a b)(g:b.grownBy c (some M))(hM:a.heap.size≤M):Below a.heap.size a c:=
  ⟨g.os.trans h.os,g.tape.trans h.tape,g.output.trans h.output,Nat.le_trans h.size g.size,λx hx=>(g.block x (Nat.lt_of_lt_of_le hx h.size) (by simp;omega)).trans (h.block x hx)⟩
theorem new_cell {w3 w4:World}{M b:Nat}{x:Value}(hb:w3.heap.size=b)(h:(w3.alloc (.cells #[x] 22)).grownBy w4 (some M))(hM:M<b):∀ j u,[x][j]?=some u→w4.cell? ((⟨b,0,none⟩:Addr).add j)=some u:=λj u hj=>by
  subst hb
  refine h.cell (cell_one_new _ _ _ j u hj) ?_
  have:((⟨w3.heap.size,0,none⟩:Addr).add j).block=w3.heap.size:=by unfold Addr.add;split<;>rfl
  rw[this]
  simp;omega
theorem one_int {x:Int}:∀ u∈[Value.int .u64 x],u.oneCell'=true:=λu hu=>by
  rw[List.mem_singleton]at hu
  subst hu;rfl
theorem alloc_le (w:World)(o:Obj):w.heap.size≤(w.alloc o).heap.size:=by simp
theorem len_ok {g h:List Int}(e:g=h)(hl:h.length≤16777216):g.length+1≤maxLen∧(g.length+1)*8≤140737488355328:=by
  subst e
  unfold maxLen
  constructor<;>omega
theorem own_app {w:World}{base:Nat}{v:Value}{g:List Int}{x:Int}(h:w.ownsRow base 22 1 v (g.length+1) (g.map (Value.int .u64)++[.int .u64 x])):w.ownsRow base 22 1 v (g++[x]).length ((g++[x]).map (Value.int .u64)):=by simpa using h
theorem addG_len (G:Grp)(d e:Dig)(b:Int):(getG (addG G d b) e).length≤(getG G e).length+1:=by
  induction G with
  | nil=>
    unfold addG getG
    split
    · simp
    · unfold getG;simp
  | cons p l ih=>
    unfold addG
    by_cases hp:p.1=d
    · rw[if_pos hp]
      unfold getG
      by_cases he:p.1=e
      · rw[if_pos he,if_pos he,List.length_append];simp
      · rw[if_neg he,if_neg he];omega
    · rw[if_neg hp]
      unfold getG
      by_cases he:p.1=e
      · rw[if_pos he,if_pos he];omega
      · rw[if_neg he,if_neg he];exact ih
theorem getG_len (l:List D_count_Use)(d:Dig):(getG (grpOf l) d).length≤l.length:=by
  have:∀ (l:List D_count_Use) (G:Grp),(getG (l.foldl (λG u=>addG G u.2.2.2.1 u.1) G) d).length≤(getG G d).length+l.length:=by
    intro l
    induction l with
    | nil=>intro G;simp
    | cons u l ih=>
      intro G
      have h1:=ih (addG G u.2.2.2.1 u.1)
      have h2:=addG_len G u.2.2.2.1 d u.1
      rw[List.foldl_cons,List.length_cons]
      omega
  have:=this l []
  simpa[getG,grpOf]using this
theorem grp_le {U:List D_count_Use}(hl:U.length≤16777216)(k:Nat)(d:Dig):(getG (grpOf (U.take k)) d).length≤16777216:=by
  have:=getG_len (U.take k) d
  rw[List.length_take]at this
  omega
theorem grown_through {a b c:World}{M:Nat}{r:Option Nat}(h:a.grownBy b (some M))(g:b.grownBy c r)(hr:∀ k,r=some k→a.heap.size≤k):a.grownBy c (some M):=
  ⟨g.os.trans h.os,g.tape.trans h.tape,g.output.trans h.output,Nat.le_trans h.size g.size,λk hk hne=>(g.block k (Nat.lt_of_lt_of_le hk h.size) (λe=>by have:=hr k e.symm;omega)).trans (h.block k hk hne)⟩
theorem hidU {p:Prop}(h:p):Hid p:=h
theorem grp_next {w:World}{M base k:Nat}{U:List D_count_Use}{u:D_count_Use}{G1:Grp}{j:Nat}{g:List Int}(hu:Hid (U[k]?=some u))(h:GRel w M base (G1.set j (u.2.2.2.1,g++[u.1])))(e:∀ b,G1.set j (u.2.2.2.1,g++[b])=addG (grpOf (U.take k)) u.2.2.2.1 b):Hid (GRel w M base (grpOf (U.take (k+1)))):=hidU (by
  rw[grp_take hu.out,← e];exact h)
theorem grown_all {a b c d e f:World}{M:Nat}{v:Value}{n:Nat}{xs:List Value}(h1:Hid (a.grownBy b (some M)))(h2:b.grownBy c (some M))(h3:c.grownBy d (some M))(h4:d.grownBy e v.ownBlock)(ho:d.ownsRow a.heap.size 22 1 v n xs)(h5:e.grownBy f (some M)):Hid (a.grownBy f (some M)):=
  hidU ((grown_through ((h1.out.trans h2).trans h3) h4 (λk hk=>(ho.lt k hk).1)).trans h5)
theorem arr4 {c:Array Value}(h:c.size=4):∃ c0 c1 c2 c3,c = #[c0,c1,c2,c3]:=by
  obtain⟨l⟩:=c
  match l,h with
  | [a,b,d,e],_=>exact⟨a,b,d,e,rfl⟩
set_option maxRecDepth 100000 in
theorem index_walk {n:Nat} {s:D_api_State} {U:List D_count_Use} (hu:F_count_Uses.f n s=some (U,())) (hl:U.length≤16777216) {w:World} {S:Nat→Prop} (hS:∀ b,S b→b<w.heap.size)
    (hgl:(∀ p∈Gl.tab,S p.1∧∃ cs,p.2 cs∧At w ⟨p.1,0,none⟩ cs)∧∀ p∈Gl.ex,S p.1∧∃ o,w.heap[p.1]?=some o∧p.2 o) {c:Array Value} (hr:Rd S w T_api_State s c.toList) :
    Calls Tryz.prog 61 #[.agg c] w λe w'=>∃ M base,e = .returned (.map (some M))∧w.heap.size<base∧base≤w'.heap.size∧Below w.heap.size w w'∧GRel w' M base (grpOf U):=by
  have mixed:=mixed
  have hmm:=@run_makeMap Tryz.prog
  obtain⟨T,N,Z,hT,hN,AT⟩:=useTy
  obtain⟨K,N2,Z2,hK,hN2,AK⟩:=digTy
  have e1:Op.load 80 (Operand.tmp 12)=Op.load T (Operand.tmp 12):=by rw[hT]
  have e2:Op.alloc 80=Op.alloc T:=by rw[hT]
  have e3:Op.store 80 (Operand.tmp 5) (Operand.tmp 13)=Op.store T (Operand.tmp 5) (Operand.tmp 13):=by rw[hT]
  have e4:Op.load 47 (Operand.tmp 15)=Op.load K (Operand.tmp 15):=by rw[hK]
  have HN:=hidU hN
  have HN2:=hidU hN2
  clear hT hK hN hN2
  have aggT:=AT.agg
  have sizeT:=AT.size
  have zeroT:=AT.zero
  have aggK:=AK.agg
  have sizeK:=AK.size
  have zeroK:=AK.zero
  have hc4:c.size=4:=by rw[← Array.length_toList];exact Rd.length _ _ _ _ _ hr
  obtain⟨c0,c1,c2,c3,rfl⟩:=arr4 hc4
  have Hr:=hidU hr
  have Hgl:=hidU hgl
  have HS:=hidU hS
  clear hr hgl hS hc4
  obtain⟨i0,hi,hz0,hz1,hz2⟩:=info_parts info22
  go_enter Tryz.func61,Tryz.ntmps61
  go_wp2_with fail
  have hg1:Grow w ((w.alloc (.cells #[c0,c1,c2,c3] 25)).alloc (.map #[] 0)):=(Grow.alloc w _).trans (Grow.alloc _ _)
  refine (uses_calls hu (S:=S) (λb hb=>Nat.lt_of_lt_of_le (HS.out b hb) hg1.size) ⟨λp hp => ?_,λp hp => ?_⟩ (Rd.keep (hg1.keep S) (λ_ h=>h) _ _ _ Hr.out)).mono ?_
  · obtain⟨q1,cs,q2,q3⟩:=Hgl.out.1 p hp
    exact⟨q1,cs,q2,(hg1.keep S).at q1 q3⟩
  · obtain⟨q1,ob,q2,q3⟩:=Hgl.out.2 p hp
    exact⟨q1,ob,(hg1.block p.1 (HS.out _ q1)).trans q2,q3⟩
  rintro en w2 ⟨hg2,sl,cap,rfl,hsl⟩
  have hsz1:((w.alloc (.cells #[c0,c1,c2,c3] 25)).alloc (.map #[] 0)).heap.size=w.heap.size+2:=by simp
  have hM2:w.heap.size+1<w2.heap.size:=by have:=hg2.size;omega
  have HG0:Hid (GRel w2 (w.heap.size+1) w2.heap.size (grpOf (U.take 0))):=hidU (by
    have h:=GRel.new (w.alloc (.cells #[c0,c1,c2,c3] 25)) w2.heap.size (by simp;omega)
    rw[show (w.alloc (.cells #[c0,c1,c2,c3] 25)).heap.size=w.heap.size+1 by simp]at h
    exact h.grow (grownOf hg2 none))
  have Hsl:Hid (U=[]∨∃ bk o,sl=some ⟨bk,o,none⟩∧bk<w2.heap.size∧bk≠w.heap.size+1∧∀ (k:Nat) u,U[k]?=some u→u.2.2.2.1.length=32∧At w2 ⟨bk,o+k*35,none⟩ (useCells u)):=hidU (by
    rcases hsl with h | ⟨bk,o,q1,q2,q3,q4⟩
    · exact .inl h
    · refine .inr ⟨bk,o,q1,q3,?_,q4⟩
      rcases q2 with q2 | q2
      · have:=HS.out bk q2;omega
      · omega)
  have HB2:Hid (Below w.heap.size w w2):=hidU (by
    have h:=hg1.trans hg2
    exact⟨h.os,h.tape,h.output,h.size,λx hx=>h.block x hx⟩)
  clear hsl hg2 hg1 hsz1 Hr Hgl HS
  go_wp2_with fail
  go_loopw [10] (λi wr=>∃ k:Nat,k≤U.length∧i = .int .i64 k∧Hid (GRel wr (w.heap.size+1) w2.heap.size (grpOf (U.take k)))∧Hid (w2.grownBy wr (some (w.heap.size+1)))) (λi _=>U.length-(intOf i).toNat)
  case atStart=>exact⟨0,Nat.zero_le _,rfl,HG0,hidU ⟨rfl,rfl,rfl,Nat.le_refl _,λ_ _ _=>rfl⟩⟩
  case round=>
    obtain⟨k,hk,rfl,HG,HW⟩:=hrel
    by_cases hkn:k<U.length
    · obtain⟨bk,o,rfl,hbk,hbM,hat⟩:=Hsl.out.resolve_left (ne_nil_of hkn)
      obtain⟨u,hu'⟩:=len_lt hkn
      obtain⟨hd,hA⟩:=hat k u hu'
      have HAr:At wr ⟨bk,o+k*35,none⟩ (useCells u).toArray.toList:=at_block (HW.out.block bk hbk (by simp;omega)) hA
      have hCN:(useCells u).toArray.size=N:=by rw[List.size_toArray,useCells_len hd,HN.out]
      have h0:(loadCellsFrom ⟨bk,o+k*35,none⟩ 0 N #[]).run Tryz.prog wr = .ok (useCells u).toArray wr:=row_cells hCN HAr
      obtain⟨w3,h1,h2,h3,h4⟩:=row_copy wr (T:=T) AT.z hCN (use_one u)
      have hD:(u.2.2.2.1.map (Value.int .u8)).toArray.size=N2:=by rw[List.size_toArray,List.length_map,hd,HN2.out]
      have h5:(loadCellsFrom ⟨wr.heap.size,3,none⟩ 0 N2 #[]).run Tryz.prog w3 = .ok (u.2.2.2.1.map (Value.int .u8)).toArray w3:=row_cells hD (At.block (c1:=[.int .u64 u.1,.int .i64 u.2.1,.int .i64 u.2.2.1]) (c2:=[]) h4 (by simp[useCells]))
      have h6:w3.cell? ⟨wr.heap.size,0,none⟩=some (.int .u64 u.1):=by
        unfold World.cell?
        simp[h4,useCells]
      generalize (useCells u).toArray=C at *
      generalize hDD:(u.2.2.2.1.map (Value.int .u8)).toArray=D at *
      have hkd:Value.agg D=digV u.2.2.2.1:=by rw[← hDD];rfl
      have hdl:=dec_lt hkn
      have hwu:=wrap_up hkn (by omega)
      have HG3:=hidU (HG.out.grow (grownOf h2 none))
      have HW3:=hidU (HW.out.trans (grownOf h2 _))
      have Hu:=hidU hu'
      have Hd:=hidU hd
      have hMr:w.heap.size+1<wr.heap.size+1:=by have:=HW.out.size;omega
      have hw23:w2.heap.size≤w3.heap.size:=HW3.out.size
      have hgl:=grp_le hl k u.2.2.2.1
      clear hA HAr hat hD hDD hu' hd HG HW
      rw[e1,e2,e3,e4]
      go_wp2_with (first
        | (refine wpList_mapEntry_grp rfl _ _ rfl (M:=w.heap.size+1) (base:=w2.heap.size) (d:=u.2.2.2.1) rfl rfl (HG3.out.grow (World.grownBy_alloc _ _ none)) Hd.out ?_;intro v st w4 G1 j g es clk q1 q2 q3 q4 q5 q6 q7)
        | (at_builtin;refine wpList_append_own_at _ rfl _ _ 83 rfl w2.heap.size 22 i0 (.int .u64 0) 1 8 Tryz.underlying83 hi hz0 hz1 hz2 rfl (by decide) v g.length (g.map (Value.int .u64)) rfl q6 ⟨wr.heap.size+1,0,none⟩ 1 1 [.int .u64 u.1] rfl rfl (new_cell h3 q1 hMr) one_int (len_ok q7 hgl).1 (len_ok q7 hgl).2 (Nat.le_trans hw23 (q2 ▸ alloc_le _ _)) ?_;intro v' w5 hown' hgrow hnil hloc))
      obtain⟨w6,hrun,hG6,hg6⟩:=entryStore_grp (g':=g++[u.1]) q3 q4 hgrow (own_app hown') hloc
      have hrun':(Instr.entryStore 129 (.map (some (w.heap.size+1))) (.int .i64 (st:Nat)) v').run Tryz.prog w5 = .ok () w6:=hrun
      clear hrun
      have R1:=grp_next Hu hG6 q5
      have R2:=grown_all HW3 (World.grownBy_alloc _ _ _) q1 hgrow q6 hg6
      rw[hrun',Result.andThen_ok]
      clear hrun' hG6 hg6 q1 q2 q3 q4 q5 q6 q7 hgrow hnil hloc hown' h0 h1 h2 h4 h5 h6 hCN hkd hi hz0 hz1 hz2 hgl hMr hw23 HW3 HG3 Hu Hd h3
      go_wp2_with fail
      exact⟨⟨k+1,hkn,rfl,R1,R2⟩,meas_up hkn⟩
    · have hdn:=dec_nlt hkn
      have hkl:U.take k=U:=List.take_of_length_le (by omega)
      rw[hkl]at HG
      go_wp2_with fail
      go_ret
      exact⟨w.heap.size+1,w2.heap.size,rfl,by omega,HW.out.size,belowM HB2.out HW.out (by omega),HG.out⟩
end Go.Proofs.YtemhlkdingkjnaaGreatDoor
namespace Go.Proofs.YtemhlkdingkjnaaGreatDoor
open Go Go.Va Go.Proofs Go.RowKit
theorem clip_none (w:World):Calls Tryz.prog 60 #[.slice none 0 0] w λe w'=>e = .returned (.slice none 0 0)∧w'=w:=by
  have mixed:=mixed
  go_enter Tryz.func60,Tryz.ntmps60
  go_wp2_with fail
  go_ret
  exact⟨rfl,rfl⟩
theorem clip_some (b n cap:Nat)(hn:n≤cap)(w:World):Calls Tryz.prog 60 #[.slice (some ⟨b,0,none⟩) n cap] w λe w'=>e = .returned (.slice (some ⟨b,0,none⟩) n n)∧w'=w:=by
  have mixed:=mixed
  go_enter Tryz.func60,Tryz.ntmps60
  go_wp2_with fail
  go_ret
  exact⟨rfl,rfl⟩
def Clipped (w:World)(base:Nat)(v:Value)(l:List Int):Prop:=(v = .slice none 0 0∧l=[])∨∃ g cur,v = .slice (some ⟨g,0,none⟩) l.length l.length∧base≤g∧w.heap[g]?=some (.cells cur 22 (0,0))∧l.length≤cur.size∧cur.toList.take l.length=l.map (Value.int .u64)
theorem clip_own {w:World}{base:Nat}{v:Value}{l:List Int}(h:w.ownsRow base 22 1 v l.length (l.map (Value.int .u64))):Calls Tryz.prog 60 #[v] w λe w'=>∃ x,e = .returned x∧w'=w∧Clipped w base x l:=by
  rcases h.2 with ⟨rfl,h2⟩ | ⟨g,cap,cur,rfl,h1,h2,h3,h4,h5,h6⟩
  · refine (clip_none w).mono ?_
    rintro e w' ⟨rfl,rfl⟩
    exact⟨_,rfl,rfl,.inl ⟨rfl,List.length_eq_zero_iff.1 h2⟩⟩
  · refine (clip_some g l.length cap h3 w).mono ?_
    rintro e w' ⟨rfl,rfl⟩
    refine⟨_,rfl,rfl,.inr ⟨g,cur,rfl,h1,h2,by omega,?_⟩⟩
    rw[Nat.mul_one]at h6
    exact h6
theorem below_load {w w1 w2:World}{b N:Nat}{D:Array Value}{ty:TypeId}(hN:D.size=N)(h:w1.heap[b]?=some (.cells D ty))(hg:Below w1.heap.size w1 w2):(loadCellsFrom ⟨b,0,none⟩ 0 N #[]).run Tryz.prog w2 = .ok D w2:=by
  have hb:b<w1.heap.size:=(Array.getElem?_eq_some_iff.1 h).1
  exact row_cells hN (At.block (c1:=[]) (c2:=[]) ((hg.block b hb).trans h) (by simp))
theorem below_trans {a b c:World}(h:Grow a b)(g:Below b.heap.size b c):Below a.heap.size a c:=
  ⟨g.os.trans h.os,g.tape.trans h.tape,g.output.trans h.output,Nat.le_trans h.size g.size,λx hx=>(g.block x (Nat.lt_of_lt_of_le hx h.size)).trans (h.block x hx)⟩
theorem lookup_agg {w:World}{M base:Nat}{G:Grp}{d:Dig}{D:Array Value}(h:GRel w M base G)(hd:d.length=32)(hk:digV d = .agg D) :
    ∃ v,(Instr.lookup 129 (.map (some M)) (.agg D) false).run Tryz.prog w = .ok v w∧w.ownsRow base 22 1 v (getG G d).length ((getG G d).map (Value.int .u64)):=by
  rw[← hk];exact lookup_grp h hd
theorem base_le {a b:World}{base:Nat}(h:Grow a b)(hb:b.heap.size<base):a.heap.size≤base:=Nat.le_trans h.size (Nat.le_of_lt hb)
theorem below_undrew {a b:World}(h:Below a.drew.heap.size a.drew b):Below a.heap.size a b:=⟨h.os,h.tape,h.output,h.size,h.block⟩
theorem grow_drew {a b:World}(h:Grow a b):Grow a b.drew:=⟨h.os,h.tape,h.output,h.size,h.block⟩
set_option maxRecDepth 100000 in
theorem holders_walk {n:Nat}{s:D_api_State}{U:List D_count_Use}(hu:F_count_Uses.f n s=some (U,()))(hl:U.length≤16777216){d:Dig}(hd:d.length=32){w:World}{S:Nat→Prop}(hS:∀ b,S b→b<w.heap.size)
    (hgl:(∀ p∈Gl.tab,S p.1∧∃ cs,p.2 cs∧At w ⟨p.1,0,none⟩ cs)∧∀ p∈Gl.ex,S p.1∧∃ o,w.heap[p.1]?=some o∧p.2 o) {c:Array Value} (hr:Rd S w T_api_State s c.toList) :
    Calls Tryz.prog 27 #[.agg c,digV d] w λe w'=>∃ v base,e = .returned v∧w.heap.size≤base∧Below w.heap.size w w'∧Clipped w' base v (getG (grpOf U) d):=by
  have mixed:=mixed
  obtain⟨K,N2,Z2,hK,hN2,AK⟩:=digTy
  have e1:Op.load 47 (Operand.tmp 3)=Op.load K (Operand.tmp 3):=by rw[hK]
  have HN2:=hidU hN2
  clear hK hN2
  have aggK:=AK.agg
  have sizeK:=AK.size
  have hc4:c.size=4:=by rw[← Array.length_toList];exact Rd.length _ _ _ _ _ hr
  obtain⟨c0,c1,c2,c3,rfl⟩:=arr4 hc4
  have Hr:=hidU hr
  have Hgl:=hidU hgl
  have HS:=hidU hS
  clear hr hgl hS hc4
  obtain⟨D,hD⟩:∃ D,D=(d.map (Value.int .u8)).toArray:=⟨_,rfl⟩
  have hkd:digV d = .agg D:=by rw[hD];rfl
  have hDN:D.size=N2:=by rw[hD,List.size_toArray,List.length_map,hd,HN2.out]
  have idx:∀ w1,Grow w w1→Calls Tryz.prog 61 #[.agg #[c0,c1,c2,c3]] w1 λe w'=>∃ M base,e = .returned (.map (some M))∧w1.heap.size<base∧base≤w'.heap.size∧Below w1.heap.size w1 w'∧GRel w' M base (grpOf U):=λw1 hg1=>
    index_walk hu hl (S:=S) (λb hb=>Nat.lt_of_lt_of_le (HS.out b hb) hg1.size) ⟨λp hp=>by
      obtain⟨q1,cs,q2,q3⟩:=Hgl.out.1 p hp
      exact⟨q1,cs,q2,(hg1.keep S).at q1 q3⟩,λp hp=>by
      obtain⟨q1,ob,q2,q3⟩:=Hgl.out.2 p hp
      exact⟨q1,ob,(hg1.block p.1 (HS.out _ q1)).trans q2,q3⟩⟩ (Rd.keep (hg1.keep S) (λ_ h=>h) _ _ _ Hr.out)
  have Idx:=hidU idx
  have hg2:Grow w ((w.alloc (.cells #[c0,c1,c2,c3] 25)).alloc (.cells D 47)):=(Grow.alloc w _).trans (Grow.alloc _ _)
  have hbD:((w.alloc (.cells #[c0,c1,c2,c3] 25)).alloc (.cells D 47)).heap[w.heap.size+1]?=some (.cells D 47):=by
    have:=heap_alloc_new (w.alloc (.cells #[c0,c1,c2,c3] 25)) (.cells D 47)
    rw[show (w.alloc (.cells #[c0,c1,c2,c3] 25)).heap.size=w.heap.size+1 by simp]at this
    exact this
  have hl0:=below_load (w:=w) hDN hbD (Below.refl _ _)
  have hl1:(loadCellsFrom ⟨w.heap.size+1,0,none⟩ 0 N2 #[]).run Tryz.prog ((w.alloc (.cells #[c0,c1,c2,c3] 25)).alloc (.cells D 47)).drew = .ok D ((w.alloc (.cells #[c0,c1,c2,c3] 25)).alloc (.cells D 47)).drew:=
    row_cells hDN (At.block (c1:=[]) (c2:=[]) hbD (by simp))
  have hl2:(loadCellsFrom ⟨w.heap.size+1,0,none⟩ 0 N2 #[]).run Tryz.prog ((w.alloc (.cells #[c0,c1,c2,c3] 25)).alloc (.cells D 47)).drew.drew = .ok D ((w.alloc (.cells #[c0,c1,c2,c3] 25)).alloc (.cells D 47)).drew.drew:=
    row_cells hDN (At.block (c1:=[]) (c2:=[]) hbD (by simp))
  have HBD:=hidU hbD
  have HG2:=hidU hg2
  clear idx Hr Hgl HS hbD hg2
  rw[hkd]
  have Hd:=hidU hd
  have HD:=hidU hD
  have HK:=hidU hkd
  clear hd hD hkd
  go_enter Tryz.func27,Tryz.ntmps27
  rw[e1]
  go_wp2_with fail
  go_region_with (first
    | (go_at_call 61;refine (Idx.out _ (grow_drew HG2.out)).mono ?_;rintro en w2 ⟨M,base,rfl,hb1,hb2,hbel,hG⟩;have HB:=hidU (below_undrew hbel);have hl3:=below_load (w:=w) hDN HBD.out HB.out;obtain⟨v,hlk,hown⟩:=lookup_agg hG Hd.out HK.out;clear hbel)
    | (go_at_call 60;refine (clip_own hown).mono ?_;rintro en w3 ⟨x,rfl,hw3,hcl⟩;subst hw3))
  all_goals (try go_wp2_with fail)
  all_goals (go_ret;exact⟨x,base,rfl,base_le HG2.out hb1,below_trans HG2.out HB.out,hcl⟩)
end Go.Proofs.YtemhlkdingkjnaaGreatDoor
namespace Go.Va
open Go
theorem leaf_row_any [Gl] {P : Program} {fid t : Nat} {e : Ty} {ts : List Ai} {f : DIn ts → Option (DOut ts [(t, .val (.r 0 e))])} (hfn : ∃ fn, P.funcs[fid]? = some fn ∧ (fn.name == "runtime.NumGoroutine") = false ∧ fn.body.isNone = false)
    (hbn:boxSig 0 ts=[]) (hheap:∀ v,heapAll (inSig 0 ts) v=[])
    (h:∀ v u,f v=some u→∀ E w vals,GlOk E w→(∀ b,E.S b→b<w.heap.size)→C E w (listAV (argAVs 0 ts v)) vals→Calls P fid vals.toArray w λen w'=>
      ∃ x,en = .returned x∧Grow w w'∧((x = .slice none 0 0∧(u.1:List (Den e))=[])∨∃ g cs ty c1 c2,x = .slice (some ⟨g,0,none⟩) (List.length (α:=Den e) u.1) (List.length (α:=Den e) u.1)∧w.heap.size≤g∧w'.heap[g]?=some (.cells cs ty (0,0))∧cs.toList=c1++c2∧∀ S w',RdL (Rd S w' e) u.1 c1)) :
    FnOk P fid ts [(t,.val (.r 0 e))] f:=by
  refine⟨hfn,λv u hv P0 S0 E w vals hh hc=>(h v u hv E w vals hh.gl hh.sIn hc).mono ?_⟩
  rintro en w' ⟨x,rfl,hg,hx⟩
  have e1:heapOf (inSig 0 ts) v=λ_ => .un:=by unfold heapOf;rw[hheap];rfl
  rw[e1]at hh
  have e2:heapOf (gOut ts [(t,.val (.r 0 e))]) u=upd1 (nmO 0) (.live (.row e u.1)) (λ_ => .un):=by
    have:∀ (g:List Si),g=[]→∀ (z:Den (Ty.slice e)) (y:Dens g),heapOf (.val t (Sh.nm (.r 0 e) (nmO 0))::g) (z,y)=upd1 (nmO 0) (.live (.row e z)) (λ_ => .un):=by
      intro g hg;subst hg;intro z y;rfl
    exact this _ hbn u.1 u.2
  have e3:oneAV (outAVs id id 0 [(t,.val (.r 0 e))] (boxSig 0 ts) u) = .ow (nmO 0) e none:=rfl
  rcases hx with ⟨rfl,hnil⟩ | ⟨g,cs,ty,c1,c2,rfl,hge,hblk,hcs,hr⟩
  · have ho:OREL (E.new (nmO 0) none ⟨.row e,0,List.length (α:=Den e) u.1⟩) w' (nmO 0) (.row e u.1):=by
      refine⟨0,by simp[Env.new],?_⟩
      simp only[Env.new,if_true]
      exact hnil
    obtain⟨g1,g2⟩:=hh.new (q:=nmO 0) (b:=none) rfl hg (λx hx=>nomatch hx) ho
    refine⟨_,_,rfl,by rw[e2];exact g1,g2.pub,?_⟩
    rw[e3,V_one rfl]
    refine⟨none,0,0,rfl,.inl rfl,λL hL => ?_⟩
    simp only[Env.new,if_true]at hL
    injection hL with hL
    subst hL
    refine⟨rfl,0,⟨rfl,?_⟩,by simp,?_⟩
    · show 0=List.length (α:=Den e) u.1
      rw[hnil];rfl
    · simp only[Env.new,if_true]
  · have hl:c1.length=List.length (α:=Den e) u.1*e.sz:=RdL.length (λx c=>Rd.length (λ_=>True) w e x c) u.1 c1 (hr _ _)
    have hcl:c1.length≤cs.size:=by
      have:=congrArg List.length hcs
      rw[List.length_append,Array.length_toList]at this
      omega
    have ho:OREL (E.new (nmO 0) (some g) ⟨.row e,cs.size,List.length (α:=Den e) u.1⟩) w' (nmO 0) (.row e u.1):=by
      refine⟨cs.size,by simp[Env.new],?_⟩
      simp only[Env.new,if_true]
      exact⟨cs,ty,(0,0),c1,c2,hblk,.inl rfl,rfl,hcs,hr _ _⟩
    obtain⟨g1,g2⟩:=hh.new (q:=nmO 0) (b:=some g) rfl hg (λx hx=>by injection hx with hx;omega) ho
    refine⟨_,_,rfl,by rw[e2];exact g1,g2.pub,?_⟩
    rw[e3,V_one rfl]
    refine⟨some ⟨g,0,none⟩,_,_,rfl,.inl rfl,λL hL => ?_⟩
    simp only[Env.new,if_true]at hL
    injection hL with hL
    subst hL
    refine⟨rfl,0,⟨rfl,rfl⟩,by simp,?_⟩
    simp only[Env.new,if_true]
    exact⟨.inr (by simp),Nat.le_refl _,by simp only[Nat.zero_add];omega,by simp⟩
end Go.Va
namespace Go.Proofs.YtemhlkdingkjnaaGreatDoor
open Go Go.Va Go.Proofs Go.RowKit
theorem rdL_ints (k:IntKind)(l:List Int)(S:Nat→Prop)(w:World):RdL (Rd S w (.int k)) l (l.map (Value.int k)):=by
  induction l with
  | nil=>exact rfl
  | cons x l ih=>exact⟨[.int k x],_,rfl,rfl,ih⟩
namespace F_count_Holders
abbrev ia:List Ai:=[.dat T_api_State,.dat (.arr 32 (.int .u8))]
abbrev io:List (Nat×Oi):=[(4,.val (.r 0 (.int .u64)))]
abbrev R:Type:=DOut ia io
noncomputable def f (n:Nat)(s:D_api_State)(d:List Int):Option R:=bnd (F_count_Uses.f n s) λu=>gIf (u.1.length≤16777216) (some (getG (grpOf u.1) d,()))
theorem ok (n:Nat):FnOk Tryz.prog 27 ia io (λv=>f n v.1 v.2.1):=by
  refine leaf_row_any ⟨Tryz.f27,Tryz.func27,by kernel_rfl,by kernel_rfl⟩ rfl (λ_=>rfl) (λv u h E w vals hgl hS hc => ?_)
  obtain⟨s,d,⟨⟩⟩:=v
  unfold f at h
  obtain⟨U,h1,h2⟩:=Go.Va.bnd_some h
  obtain⟨U,⟨⟩⟩:=U
  by_cases hl:U.length≤16777216
  case neg=>
    have h2:gIf (U.length≤16777216) (some (getG (grpOf U) d,()))=some u:=h2
    rw[gIf_eq,if_neg hl]at h2;exact nomatch h2
  rw[gIf_pos hl]at h2
  injection h2 with h2
  subst h2
  obtain⟨x1,vs1,rfl,k1,x2,vs2,rfl,k2,k3⟩:=hc
  have k3:vs2=[]:=k3
  subst k3
  obtain⟨c,rfl,hr⟩:=(V_agg (E:=E) (by rfl)).1 k1
  obtain⟨dc,rfl,hd⟩:=(V_agg (E:=E) (by rfl)).1 k2
  obtain⟨hd1,hd2⟩:=rd_dig hd
  have hdv:Value.agg dc=digV d:=by
    unfold digV
    rw[← hd2]
  have hgo:=holders_walk h1 hl hd1 hS hgl hr
  rw[← hdv]at hgo
  refine hgo.mono ?_
  rintro en w' ⟨v,base,rfl,hb,hbel,hcl⟩
  have hg:Grow w w':=⟨hbel.os,hbel.tape,hbel.output,hbel.size,λb h=>hbel.block b h⟩
  refine⟨v,rfl,hg,?_⟩
  rcases hcl with ⟨q1,q2⟩ | ⟨g,cur,q1,q2,q3,q4,q5⟩
  · exact .inl ⟨q1,q2⟩
  · refine .inr ⟨g,cur,22,_,cur.toList.drop (getG (grpOf U) d).length,q1,Nat.le_trans hb q2,q3,?_,λS w'=>rdL_ints .u64 _ S w'⟩
    rw[← q5,List.take_append_drop]
noncomputable def en (n:Nat):Entry:=mkEntry 27 ia io (λv=>f n v.1 v.2.1)
end F_count_Holders
end Go.Proofs.YtemhlkdingkjnaaGreatDoor
namespace Go.Proofs.YtemhlkdingkjnaaGreatDoor
open Go Go.Va Go.Proofs
namespace F_slices_Clip_uint64
abbrev ia:List Ai:=[.dat (.slice (.int .u64))]
abbrev io:List (Nat×Oi):=[(2,.dat (.slice (.int .u64)))]
abbrev R:Type:=DOut ia io
noncomputable def X (n:Nat):Ctx:=⟨⟨tab,[],0,[]⟩,9,bnOf 0 ia⟩
noncomputable def T:CT := .o
noncomputable def f (n:Nat)(s_:List (Int)):Option R:=fRun (X n) n T Tryz.f60 ia io (s_,())
theorem e0 (n:Nat) (s_:List (Int)):f n s_ =
  gIf (0≤((s_.length:Nat):Int)∧((s_.length:Nat):Int)≤((s_.length:Nat):Int)) (
    gIf (0≤(0:Int)∧(0:Int)≤((s_.length:Nat):Int)) (
      gIf (((s_.length:Nat):Int)≤((s_.length:Nat):Int)∧((s_.length:Nat):Int)≤((s_.length:Nat):Int)∧true=true) (
        some (((s_.take (((s_.length:Nat):Int).toNat)).drop 0),())
        )
      )
    ):=(hideF_eq _).trans (by kernel_rfl)
theorem phi (n:Nat):∀ e∈(X n).c.Φ,EntryOk Tryz.prog e:=allE_nil
theorem ok (n:Nat):FnOk Tryz.prog 60 ia io (fRun (X n) n T Tryz.f60 ia io):=tree_ok mixed tabIs (phi n) Tryz.func60 (by kernel_rfl) rfl
noncomputable def en (n:Nat):Entry:=mkEntry 60 ia io (fRun (X n) n T Tryz.f60 ia io)
end F_slices_Clip_uint64
end Go.Proofs.YtemhlkdingkjnaaGreatDoor
namespace Go.Proofs.YtemhlkdingkjnaaGreatDoor
open Go Go.Va Go.Proofs
namespace F_count_Orphans
abbrev ia:List Ai:=[.dat T_api_State,.dat (.slice (.int .u64))]
abbrev io:List (Nat×Oi):=[(4,.dat (.slice (.int .u64)))]
abbrev R:Type:=DOut ia io
noncomputable def X (n:Nat):Ctx:=⟨⟨tab,[F_count_all.en n,F_slices_Clip_uint64.en n],0,[]⟩,40,bnOf 0 ia⟩
abbrev g1:List Si:=[.dat 1 (.slice (.int .u64)),.val 5 (.m 200500 (.int .u64) .bool),.val 13 (.r 201300 T_count_says),.dat 14 (.int .i64),.dat 15 (.int .i64)]
abbrev g2:List Si:=[.dat 1 (.slice (.int .u64)),.val 5 (.m 200500 (.int .u64) .bool)]
abbrev g3:List Si:=[.val 5 (.m 200500 (.int .u64) .bool),.val 8 (.r 200800 (.int .u64)),.dat 23 (.slice (.int .u64)),.dat 24 (.int .i64),.dat 25 (.int .i64)]
abbrev g4:List Si:=[.val 8 (.r 200800 (.int .u64))]
noncomputable def T:CT:=(.s .o (.s .o (.s (.s .o (.b (.l g1 .o))) (.r g2 (.s .o (.s (.s .o (.b (.l g3 .o))) (.r g4 .o)))))))
noncomputable def J1 (n:Nat)(m:Nat):(List (Int))×(List (Int×Bool))×(List (D_count_says))×Int×Int×Unit→Option R:=jL (X n) n T (bodyOf Tryz.f28) (endK ia io) g1 [1,1,0,1,0] [] m
noncomputable def J2 (n:Nat):(List (Int))×(List (Int×Bool))×Unit→Option R:=jR (X n) n T (bodyOf Tryz.f28) (endK ia io) g2 [1,1,1] []
noncomputable def J3 (n:Nat)(m:Nat):(List (Int×Bool))×(List (Int))×(List (Int))×Int×Int×Unit→Option R:=jL (X n) n T (bodyOf Tryz.f28) (endK ia io) g3 [1,1,1,1,0,1,0] [] m
noncomputable def J4 (n:Nat):(List (Int))×Unit→Option R:=jR (X n) n T (bodyOf Tryz.f28) (endK ia io) g4 [1,1,1,1,1] []
noncomputable def f (n:Nat)(s_:D_api_State)(list:List (Int)):Option R:=fRun (X n) n T Tryz.f28 ia io (s_,list,())
theorem e0 (n:Nat)(s_:D_api_State)(list:List (Int)):f n s_ list =
  bnd (F_count_all.f n s_) λu1=>
  J1 n n (list,[],u1.1,((u1.1.length:Nat):Int),0,()):=(hideF_eq _).trans (by kernel_rfl)
theorem e1 (n m:Nat)(list:List (Int))(held:List (Int×Bool))(t13:List (D_count_says))(t14:Int)(t15:Int):J1 n (m+1) (list,held,t13,t14,t15,()) =
  bIf ((hide (decide (t15<t14)))) (
    gIf (0≤t15∧t15<((t13.length:Nat):Int)) (
      J1 n m (list,(mSet (.int .u64) .bool held ((List.getD t13 (0+t15.toNat) (Va.dflt T_count_says)).1) true),t13,t14,(IntKind.i64.wrap (t15+(1:Int))),())
      )
    ) (
    J2 n (list,held,())
    ):=(hideF_eq _).trans (by kernel_rfl)
theorem e2 (n:Nat)(list:List (Int))(held:List (Int×Bool)):J2 n (list,held,()) =
  J3 n n (held,[],list,((list.length:Nat):Int),0,()):=(hideF_eq _).trans (by kernel_rfl)
theorem e3 (n m:Nat) (held:List (Int×Bool)) (out:List (Int)) (t23:List (Int)) (t24:Int) (t25:Int):J3 n (m+1) (held,out,t23,t24,t25,()) =
  bIf ((hide (decide (t25<t24)))) (
    gIf (0≤t25∧t25<((t23.length:Nat):Int)) (
      bIf ((!((mGet (.int .u64) .bool held (List.getD t23 t25.toNat 0)).1))) (
        gIf ((out.length+1)*8≤70368744177664) (
          J3 n m (held,(out++([(List.getD t23 t25.toNat 0)]:List (Int))),t23,t24,(IntKind.i64.wrap (t25+(1:Int))),())
          )
        ) (
        J3 n m (held,out,t23,t24,(IntKind.i64.wrap (t25+(1:Int))),())
        )
      )
    ) (
    J4 n (out,())
    ):=(hideF_eq _).trans (by kernel_rfl)
theorem e4 (n:Nat)(out:List (Int)):J4 n (out,()) =
  bnd (F_slices_Clip_uint64.f n out) λu1=>
  some (u1.1,()):=(hideF_eq _).trans (by kernel_rfl)
theorem phi (n:Nat):∀ e∈(X n).c.Φ,EntryOk Tryz.prog e:=allE_cons (mkEntry_ok (F_count_all.ok n)) (allE_cons (mkEntry_ok (F_slices_Clip_uint64.ok n)) (allE_nil))
theorem ok (n:Nat):FnOk Tryz.prog 28 ia io (fRun (X n) n T Tryz.f28 ia io):=tree_ok mixed tabIs (phi n) Tryz.func28 (by kernel_rfl) rfl
noncomputable def en (n:Nat):Entry:=mkEntry 28 ia io (fRun (X n) n T Tryz.f28 ia io)
end F_count_Orphans
end Go.Proofs.YtemhlkdingkjnaaGreatDoor
namespace Go.Proofs.YtemhlkdingkjnaaGreatDoor
open Go Go.Va Go.Proofs
namespace F_law16_awake
abbrev ia:List Ai:=[]
abbrev io:List (Nat×Oi):=[(0,.dat .bool)]
noncomputable def f:Option (DOut ia io):=some (true,())
theorem ok:FnOk Tryz.prog 24 ia io (λ_=>f):=by
  refine leaf_ok ⟨Tryz.f24,Tryz.func24,by kernel_rfl,by kernel_rfl⟩ rfl (λ_=>rfl) (λ_=>rfl) (λv u h E w vals hgl hc => ?_)
  have hc:vals=[]:=hc
  subst hc
  unfold f at h
  injection h with h
  subst h
  refine (Aw16.runs w).mono ?_
  rintro en w' ⟨rfl,hb⟩
  exact⟨_,rfl,hb,λE=>V_bool.2 rfl⟩
noncomputable def en:Entry:=mkEntry 24 ia io (λ_=>f)
end F_law16_awake
end Go.Proofs.YtemhlkdingkjnaaGreatDoor
namespace Go.Proofs.YtemhlkdingkjnaaGreatDoor
open Go Go.Va Go.Proofs
namespace F_law16_CountOwn
abbrev ia:List Ai:=[.dat T_api_State,.dat (.arr 32 (.int .u8))]
abbrev io:List (Nat×Oi):=[(4,.dat .bool)]
abbrev R:Type:=DOut ia io
noncomputable def X (n:Nat):Ctx:=⟨⟨tab,[F_count_Uses.en n,F_law16_awake.en,F_count_Holders.en n,F_count_Orphans.en n],0,[]⟩,66,bnOf 0 ia⟩
abbrev g1:List Si:=[.ref 2 2 T_api_State,.ref 3 3 (.arr 32 (.int .u8)),.dat 5 (.slice T_count_Use),.dat 6 (.int .i64),.box 2 (.d T_api_State),.box 3 (.d (.arr 32 (.int .u8)))]
abbrev g2:List Si:=[.ref 2 2 T_api_State,.ref 3 3 (.arr 32 (.int .u8)),.dat 5 (.slice T_count_Use),.dat 6 (.int .i64),.box 2 (.d T_api_State),.box 3 (.d (.arr 32 (.int .u8)))]
abbrev g3:List Si:=[.ref 2 2 T_api_State,.ref 3 3 (.arr 32 (.int .u8)),.box 2 (.d T_api_State),.box 3 (.d (.arr 32 (.int .u8)))]
noncomputable def T:CT:=(.s .o (.s .o (.s (.s .o (.b (.l g1 (.s .o (.s .o (.r g2 .o)))))) (.r g3 .o))))
noncomputable def J1 (n:Nat)(m:Nat):(List (D_count_Use))×Int×D_api_State×(List (Int))×Unit→Option R:=jL (X n) n T (bodyOf Tryz.f6) (endK ia io) g1 [1,1,0,1,0] [] m
noncomputable def J2 (n m1:Nat):(List (D_count_Use))×Int×D_api_State×(List (Int))×Unit→Option R:=jR (X n) n T (bodyOf Tryz.f6) (endK ia io) g2 [1,1,0,1,0,0,1,1] [m1]
noncomputable def J3 (n:Nat):D_api_State×(List (Int))×Unit→Option R:=jR (X n) n T (bodyOf Tryz.f6) (endK ia io) g3 [1,1,1] []
noncomputable def f (n:Nat)(s_:D_api_State)(d:List (Int)):Option R:=fRun (X n) n T Tryz.f6 ia io (s_,d,())
theorem e0 (n:Nat)(s_:D_api_State)(d:List (Int)):f n s_ d =
  bnd (F_count_Uses.f n s_) λu1=>
  J1 n n (u1.1,0,s_,d,()):=(hideF_eq _).trans (by kernel_rfl)
theorem e1 (n m : Nat) (l:List (D_count_Use)) (i:Int) (s_:D_api_State) (d:List (Int)):J1 n (m+1) (l,i,s_,d,()) =
  bIf ((hide (decide (i<((l.length:Nat):Int))))) (
    gIf (0≤i∧i<((l.length:Nat):Int)) (
      bIf ((hide (decide (((List.getD l i.toNat (Va.dflt T_count_Use)).1)≥s_.2.2.1)))) (
        some (false,())
        ) (
        gIf (0≤i∧i<((l.length:Nat):Int)) (
          bIf ((hide (decide ((((List.getD l i.toNat (Va.dflt T_count_Use)).2).1)<(1:Int))))) (
            some (false,())
            ) (
            bIf ((hide (decide (i>(0:Int))))) (
              gIf (0≤i∧i<((l.length:Nat):Int)) (
                gIf (0≤(IntKind.i64.wrap (i-(1:Int)))∧(IntKind.i64.wrap (i-(1:Int)))<((l.length:Nat):Int)) (
                  bIf ((hide (decide (((List.getD l i.toNat (Va.dflt T_count_Use)).1)≤((List.getD l ((IntKind.i64.wrap (i-(1:Int))).toNat) (Va.dflt T_count_Use)).1))))) (
                    some (false,())
                    ) (
                    J2 n m (l,i,s_,d,())
                    )
                  )
                )
              ) (
              J2 n m (l,i,s_,d,())
              )
            )
          )
        )
      )
    ) (
    J3 n (s_,d,())
    ):=(hideF_eq _).trans (by kernel_rfl)
theorem e2 (n m1:Nat)(l:List (D_count_Use))(i:Int)(s_:D_api_State)(d:List (Int)):J2 n m1 (l,i,s_,d,()) =
  J1 n m1 (l,(IntKind.i64.wrap (i+(1:Int))),s_,d,()):=(hideF_eq _).trans (by kernel_rfl)
theorem e3 (n:Nat)(s_:D_api_State)(d:List (Int)):J3 n (s_,d,()) =
  bnd (F_law16_awake.f) λu1=>
  bIf (u1.1) (
    bnd (F_count_Holders.f n s_ d) λu2=>
    bnd (F_count_Orphans.f n s_ u2.1) λu3=>
    bIf ((hide (((u3.1.length:Nat):Int)==(0:Int)))) (
      bnd (F_count_Orphans.f n s_ ([0]:List (Int))) λu4=>
      some ((hide (((u4.1.length:Nat):Int)==(1:Int))),())
      ) (
      some (false,())
      )
    ) (
    some (false,())
    ):=(hideF_eq _).trans (by kernel_rfl)
theorem phi (n:Nat):∀ e∈(X n).c.Φ,EntryOk Tryz.prog e:=allE_cons (mkEntry_ok (F_count_Uses.ok n)) (allE_cons (mkEntry_ok (F_law16_awake.ok)) (allE_cons (mkEntry_ok (F_count_Holders.ok n)) (allE_cons (mkEntry_ok (F_count_Orphans.ok n)) (allE_nil))))
theorem ok (n:Nat):FnOk Tryz.prog 6 ia io (fRun (X n) n T Tryz.f6 ia io):=tree_ok mixed tabIs (phi n) Tryz.func6 (by kernel_rfl) rfl
noncomputable def en (n:Nat):Entry:=mkEntry 6 ia io (fRun (X n) n T Tryz.f6 ia io)
end F_law16_CountOwn
end Go.Proofs.YtemhlkdingkjnaaGreatDoor
