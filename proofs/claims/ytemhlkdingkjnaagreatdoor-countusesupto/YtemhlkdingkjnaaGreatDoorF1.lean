/-
  What the functions compute, by the abstract interpreter.
-/
import Derived.Test.YtemhlkdingkjnaaGreatDoorF0
import Derived.Test.YtemhlkdingkjnaaGreatDoorVaTab
import Derived.Shelf.Unicode.ValidAny
import Derived.Shelf.Small.Strs
import Derived.Shelf.Strings.Split
import Derived.Shelf.Strings.SlTrimAscii
import Derived.Test.YtemhlkdingkjnaaGreatDoorVaSort
import Derived.Lib.Small
import Derived.Lib.Walk
import Derived.Sort.Grow
set_option linter.unusedVariables false
set_option linter.unusedSimpArgs false
namespace Go.Proofs
open Go.Shelf
def Tryz.l146_ren:Go.Shelf.Ren:=⟨fun | 146=>209 | 221=>229 | 268=>242 | 138=>243 | 143=>244 | 195=>250 | 197=>246 | 218=>251 | 219=>252 | 260=>253 | 217=>237 | 225=>256 | 224=>257 | 267=>258 | 266=>249 | 314=>260 | n=>n,fun | 9=>9 | 31=>249 | 3=>3 | 4=>4 | 0=>0 | 105=>289 | 21=>21 | 5=>5 | 46=>155 | 119=>281 | 139=>284 | 138=>283 | 146=>295 | 51=>193 | n=>n,fun | 1=>2 | 3=>0 | 4=>1 | n=>n⟩
theorem Tryz.l146:Go.Proofs.Lays.n146 Tryz.prog Tryz.l146_ren:={
  mixed:=by kernel_rfl
  f138:=Tryz.func243.trans (congrArg some (by kernel_rfl))
  f143:=Tryz.func244.trans (congrArg some (by kernel_rfl))
  f146:=Tryz.func209.trans (congrArg some (by kernel_rfl))
  f195:=Tryz.func250.trans (congrArg some (by kernel_rfl))
  f197:=Tryz.func246.trans (congrArg some (by kernel_rfl))
  f217:=Tryz.func237.trans (congrArg some (by kernel_rfl))
  f218:=Tryz.func251.trans (congrArg some (by kernel_rfl))
  f219:=Tryz.func252.trans (congrArg some (by kernel_rfl))
  f221:=Tryz.func229.trans (congrArg some (by kernel_rfl))
  f224:=Tryz.func257.trans (congrArg some (by kernel_rfl))
  f225:=Tryz.func256.trans (congrArg some (by kernel_rfl))
  f260:=Tryz.func253.trans (congrArg some (by kernel_rfl))
  f266:=Tryz.func249.trans (congrArg some (by kernel_rfl))
  f267:=Tryz.func258.trans (congrArg some (by kernel_rfl))
  f268:=Tryz.func242.trans (congrArg some (by kernel_rfl))
  f314:=Tryz.func260.trans (congrArg some (by kernel_rfl))
  t0:=Tryz.underlying0
  a0:=Tryz.isAgg0
  z0:=Tryz.sizeOf0
  v0:=Tryz.zeroValue0
  t3:=Tryz.underlying3
  a3:=Tryz.isAgg3
  z3:=Tryz.sizeOf3
  v3:=Tryz.zeroValue3
  t4:=Tryz.underlying4
  a4:=Tryz.isAgg4
  z4:=Tryz.sizeOf4
  v4:=Tryz.zeroValue4
  t5:=Tryz.underlying5
  a5:=Tryz.isAgg5
  z5:=Tryz.sizeOf5
  v5:=Tryz.zeroValue5
  t9:=Tryz.underlying9
  a9:=Tryz.isAgg9
  z9:=Tryz.sizeOf9
  v9:=Tryz.zeroValue9
  t21:=Tryz.underlying21
  a21:=Tryz.isAgg21
  z21:=Tryz.sizeOf21
  v21:=Tryz.zeroValue21
  t31:=Tryz.underlying249
  a31:=Tryz.isAgg249
  z31:=Tryz.sizeOf249
  v31:=Tryz.zeroValue249
  t46:=Tryz.underlying155
  a46:=Tryz.isAgg155
  z46:=Tryz.sizeOf155
  v46:=Tryz.zeroValue155
  t51:=Tryz.underlying193
  a51:=Tryz.isAgg193
  z51:=Tryz.sizeOf193
  v51:=Tryz.zeroValue193
  t105:=Tryz.underlying289
  a105:=Tryz.isAgg289
  z105:=Tryz.sizeOf289
  v105:=Tryz.zeroValue289
  t119:=Tryz.underlying281
  a119:=Tryz.isAgg281
  z119:=Tryz.sizeOf281
  t138:=Tryz.underlying283
  a138:=Tryz.isAgg283
  z138:=Tryz.sizeOf283
  v138:=Tryz.zeroValue283
  t139:=Tryz.underlying284
  a139:=Tryz.isAgg284
  z139:=Tryz.sizeOf284
  v139:=Tryz.zeroValue284
  t146:=Tryz.underlying295
  a146:=Tryz.isAgg295
  z146:=Tryz.sizeOf295
  v146:=Tryz.zeroValue295
  g1:=by kernel_rfl
  g3:=by kernel_rfl
  g4:=by kernel_rfl }
def Tryz.l160_ren:Go.Shelf.Ren:=⟨fun | 160=>210 | 232=>231 | 231=>230 | 227=>232 | 234=>234 | 233=>233 | 236=>236 | 235=>235 | 228=>245 | 271=>248 | 151=>247 | 197=>246 | 120=>255 | 152=>254 | 260=>253 | 137=>211 | 119=>259 | 224=>257 | 225=>256 | 217=>237 | 266=>249 | n=>n,fun | 9=>9 | 4=>4 | 3=>3 | 5=>5 | 117=>274 | 116=>273 | 0=>0 | 124=>277 | 21=>21 | 105=>289 | 46=>155 | 119=>281 | 139=>284 | 138=>283 | n=>n,fun | 3=>0 | 4=>1 | n=>n⟩
theorem Tryz.l160:Go.Proofs.Lays.n160 Tryz.prog Tryz.l160_ren:={
  mixed:=by kernel_rfl
  f119:=Tryz.func259.trans (congrArg some (by kernel_rfl))
  f120:=Tryz.func255.trans (congrArg some (by kernel_rfl))
  f137:=Tryz.func211.trans (congrArg some (by kernel_rfl))
  f151:=Tryz.func247.trans (congrArg some (by kernel_rfl))
  f152:=Tryz.func254.trans (congrArg some (by kernel_rfl))
  f160:=Tryz.func210.trans (congrArg some (by kernel_rfl))
  f197:=Tryz.func246.trans (congrArg some (by kernel_rfl))
  f217:=Tryz.func237.trans (congrArg some (by kernel_rfl))
  f224:=Tryz.func257.trans (congrArg some (by kernel_rfl))
  f225:=Tryz.func256.trans (congrArg some (by kernel_rfl))
  f227:=Tryz.func232.trans (congrArg some (by kernel_rfl))
  f228:=Tryz.func245.trans (congrArg some (by kernel_rfl))
  f231:=Tryz.func230.trans (congrArg some (by kernel_rfl))
  f232:=Tryz.func231.trans (congrArg some (by kernel_rfl))
  f233:=Tryz.func233.trans (congrArg some (by kernel_rfl))
  f234:=Tryz.func234.trans (congrArg some (by kernel_rfl))
  f235:=Tryz.func235.trans (congrArg some (by kernel_rfl))
  f236:=Tryz.func236.trans (congrArg some (by kernel_rfl))
  f260:=Tryz.func253.trans (congrArg some (by kernel_rfl))
  f266:=Tryz.func249.trans (congrArg some (by kernel_rfl))
  f271:=Tryz.func248.trans (congrArg some (by kernel_rfl))
  t0:=Tryz.underlying0
  a0:=Tryz.isAgg0
  z0:=Tryz.sizeOf0
  v0:=Tryz.zeroValue0
  t3:=Tryz.underlying3
  a3:=Tryz.isAgg3
  z3:=Tryz.sizeOf3
  v3:=Tryz.zeroValue3
  t4:=Tryz.underlying4
  a4:=Tryz.isAgg4
  z4:=Tryz.sizeOf4
  v4:=Tryz.zeroValue4
  t5:=Tryz.underlying5
  a5:=Tryz.isAgg5
  z5:=Tryz.sizeOf5
  v5:=Tryz.zeroValue5
  t9:=Tryz.underlying9
  a9:=Tryz.isAgg9
  z9:=Tryz.sizeOf9
  v9:=Tryz.zeroValue9
  t21:=Tryz.underlying21
  a21:=Tryz.isAgg21
  z21:=Tryz.sizeOf21
  v21:=Tryz.zeroValue21
  t46:=Tryz.underlying155
  a46:=Tryz.isAgg155
  z46:=Tryz.sizeOf155
  v46:=Tryz.zeroValue155
  t105:=Tryz.underlying289
  a105:=Tryz.isAgg289
  z105:=Tryz.sizeOf289
  v105:=Tryz.zeroValue289
  t116:=Tryz.underlying273
  a116:=Tryz.isAgg273
  z116:=Tryz.sizeOf273
  t117:=Tryz.underlying274
  a117:=Tryz.isAgg274
  z117:=Tryz.sizeOf274
  v117:=Tryz.zeroValue274
  t119:=Tryz.underlying281
  a119:=Tryz.isAgg281
  z119:=Tryz.sizeOf281
  t124:=Tryz.underlying277
  a124:=Tryz.isAgg277
  z124:=Tryz.sizeOf277
  v124:=Tryz.zeroValue277
  t138:=Tryz.underlying283
  a138:=Tryz.isAgg283
  z138:=Tryz.sizeOf283
  v138:=Tryz.zeroValue283
  t139:=Tryz.underlying284
  a139:=Tryz.isAgg284
  z139:=Tryz.sizeOf284
  v139:=Tryz.zeroValue284
  g3:=by kernel_rfl
  g4:=by kernel_rfl }
def Tryz.l196_ren:Go.Shelf.Ren:=⟨fun | 196=>219 | 259=>238 | n=>n,fun | 9=>9 | 4=>4 | 3=>3 | 5=>5 | 12=>12 | 119=>281 | 0=>0 | 46=>155 | 139=>284 | 138=>283 | 53=>22 | n=>n,fun | 3=>0 | 4=>1 | n=>n⟩
theorem Tryz.l196:Go.Proofs.Lays.n196 Tryz.prog Tryz.l196_ren:={
  mixed:=by kernel_rfl
  f196:=Tryz.func219.trans (congrArg some (by kernel_rfl))
  f259:=Tryz.func238.trans (congrArg some (by kernel_rfl))
  t0:=Tryz.underlying0
  a0:=Tryz.isAgg0
  z0:=Tryz.sizeOf0
  v0:=Tryz.zeroValue0
  t3:=Tryz.underlying3
  a3:=Tryz.isAgg3
  z3:=Tryz.sizeOf3
  v3:=Tryz.zeroValue3
  t4:=Tryz.underlying4
  a4:=Tryz.isAgg4
  z4:=Tryz.sizeOf4
  v4:=Tryz.zeroValue4
  t5:=Tryz.underlying5
  a5:=Tryz.isAgg5
  z5:=Tryz.sizeOf5
  v5:=Tryz.zeroValue5
  t9:=Tryz.underlying9
  a9:=Tryz.isAgg9
  z9:=Tryz.sizeOf9
  v9:=Tryz.zeroValue9
  t12:=Tryz.underlying12
  a12:=Tryz.isAgg12
  z12:=Tryz.sizeOf12
  v12:=Tryz.zeroValue12
  t46:=Tryz.underlying155
  a46:=Tryz.isAgg155
  z46:=Tryz.sizeOf155
  v46:=Tryz.zeroValue155
  t53:=Tryz.underlying22
  a53:=Tryz.isAgg22
  z53:=Tryz.sizeOf22
  v53:=Tryz.zeroValue22
  t119:=Tryz.underlying281
  a119:=Tryz.isAgg281
  z119:=Tryz.sizeOf281
  t138:=Tryz.underlying283
  a138:=Tryz.isAgg283
  z138:=Tryz.sizeOf283
  v138:=Tryz.zeroValue283
  t139:=Tryz.underlying284
  a139:=Tryz.isAgg284
  z139:=Tryz.sizeOf284
  v139:=Tryz.zeroValue284
  g3:=by kernel_rfl
  g4:=by kernel_rfl }
def Tryz.l137_ren:Go.Shelf.Ren:=⟨fun | 137=>211 | 217=>237 | 266=>249 | n=>n,fun | 9=>9 | 5=>5 | 3=>3 | n=>n,fun | n=>n⟩
theorem Tryz.l137:Go.Proofs.Lays.n137 Tryz.prog Tryz.l137_ren:={
  mixed:=by kernel_rfl
  f137:=Tryz.func211.trans (congrArg some (by kernel_rfl))
  f217:=Tryz.func237.trans (congrArg some (by kernel_rfl))
  f266:=Tryz.func249.trans (congrArg some (by kernel_rfl))
  t3:=Tryz.underlying3
  a3:=Tryz.isAgg3
  z3:=Tryz.sizeOf3
  v3:=Tryz.zeroValue3
  t5:=Tryz.underlying5
  a5:=Tryz.isAgg5
  z5:=Tryz.sizeOf5
  v5:=Tryz.zeroValue5
  t9:=Tryz.underlying9
  a9:=Tryz.isAgg9
  z9:=Tryz.sizeOf9
  v9:=Tryz.zeroValue9 }
end Go.Proofs
namespace Go.Proofs.YtemhlkdingkjnaaGreatDoor
open Go Go.Va Go.Proofs
theorem acc_get:∀ (i:Nat),i<16→acceptCells[2*i]?=some (Value.int .u8 (Lib.accLo i))∧acceptCells[2*i+1]?=some (Value.int .u8 (Lib.accHi i))
  | 0,_ | 1,_ | 2,_ | 3,_ | 4,_ | 5,_ | 6,_ | 7,_ | 8,_ | 9,_ | 10,_ | 11,_ | 12,_ | 13,_ | 14,_ | 15,_=>⟨rfl,rfl⟩
  | n+16,h=>absurd h (by omega)
theorem utf8Tabs {E:Env}{w:World}(h:GlOk E w):Lib.Utf8Tabs (Tryz.l196_ren.g 3) (Tryz.l196_ren.g 4) w:=by
  obtain⟨_,c0,e0,h0⟩:=h.1 (0,λcs=>cs=firstCells) (by simp[Gl.tab])
  obtain⟨_,c1,e1,h1⟩:=h.1 (1,λcs=>cs=acceptCells) (by simp[Gl.tab])
  have e0:c0=firstCells:=e0
  have e1:c1=acceptCells:=e1
  subst e0 e1
  have h0:=h0.2
  have h1:=h1.2
  refine⟨λc hc => ?_,λi hi => ?_⟩
  · have:=h0 c (by simp[firstCells,Lib.firstTab];exact hc)
    simp[firstCells,Lib.firstTab]at this
    exact this
  · have hl:acceptCells.length=32:=by kernel_rfl
    have a0:=h1 (2*i) (by rw[hl];omega)
    have a1:=h1 (2*i+1) (by rw[hl];omega)
    obtain⟨e0,e1⟩:=acc_get i hi
    rw[List.getElem?_eq_getElem (by rw[hl];omega)]at e0 e1
    simp only[Option.some.injEq]at e0 e1
    simp only[Nat.zero_add]at a0 a1
    rw[e0]at a0
    rw[e1]at a1
    exact⟨a0,a1⟩
theorem maxLen_cell {E:Env}{w:World}(h:GlOk E w):∃ m,w.cell? ⟨Tryz.l146_ren.g 1,0,none⟩=some (.int .i64 m):=by
  obtain⟨_,c,⟨m,e⟩,h2⟩:=h.1 (2,λcs=>∃ m,cs=[.int .i64 m]) (by simp[Gl.tab])
  have e:c=[.int .i64 m]:=e
  subst e
  have:=h2.2 0 (by simp)
  exact⟨m,this⟩
namespace F_unicode_utf8_ValidString
abbrev ia:List Ai:=[.dat .str]
abbrev io:List (Nat×Oi):=[(2,.dat .bool)]
noncomputable def f (s:ByteArray):Option (DOut ia io):=if s.size≤9223372036854775807 then some (Lib.validD s.data.toList,()) else none
theorem ok:FnOk Tryz.prog 219 ia io (λv=>f v.1):=by
  refine leaf_ok ⟨Tryz.f219,Tryz.func219,by kernel_rfl,by kernel_rfl⟩ rfl (λ_=>rfl) (λ_=>rfl) (λv u h E w vals hgl hc => ?_)
  obtain⟨x,vs,rfl,h1,h3⟩:=hc
  have h3:vs=[]:=h3
  subst h3
  have h1:x = .string v.1:=V_str.1 h1
  subst h1
  unfold f at h
  split at h
  · next hs=>
    injection h with h
    subst h
    refine (Any.utf8_ValidString Tryz.l196 v.1 w hs (utf8Tabs hgl)).mono ?_
    rintro e w' ⟨rfl,hb⟩
    exact⟨_,rfl,⟨hb.os,hb.tape,hb.output,hb.size,hb.block⟩,λE=>V_bool.2 rfl⟩
  · exact absurd h (by simp)
noncomputable def en:Entry:=mkEntry 219 ia io (λv=>f v.1)
end F_unicode_utf8_ValidString
namespace F_strings_IndexByte
abbrev ia:List Ai:=[.dat .str,.dat (.int .u8)]
abbrev io:List (Nat×Oi):=[(4,.dat (.int .i64))]
noncomputable def f (s:ByteArray)(c:Int):Option (DOut ia io):=some (Lib.indexByte s.data.toList c.toNat.toUInt8,())
theorem ok:FnOk Tryz.prog 211 ia io (λv=>f v.1 v.2.1):=by
  refine leaf_ok ⟨Tryz.f211,Tryz.func211,by kernel_rfl,by kernel_rfl⟩ rfl (λ_=>rfl) (λ_=>rfl) (λv u h E w vals hgl hc => ?_)
  obtain⟨x,vs,rfl,h1,y,vs',rfl,h2,h3⟩:=hc
  have h3:vs'=[]:=h3
  subst h3
  have h1:x = .string v.1:=V_str.1 h1
  have h2:y = .int .u8 v.2.1:=V_int.1 h2
  subst h1 h2
  injection h with h
  subst h
  refine (Any.strings_IndexByte Tryz.l137 v.1 v.2.1 w).mono ?_
  rintro e w' ⟨rfl,rfl⟩
  exact⟨_,rfl,.refl _,λE=>V_int.2 rfl⟩
noncomputable def en:Entry:=mkEntry 211 ia io (λv=>f v.1 v.2.1)
end F_strings_IndexByte
namespace F_strings_Trim
abbrev ia:List Ai:=[.dat .str,.dat .str]
abbrev io:List (Nat×Oi):=[(4,.dat .str)]
noncomputable def f (s c:ByteArray):Option (DOut ia io):=if s.size≤9223372036854775807∧c.size<4294967281∧(∀ b∈c.data.toList,b.toNat<128) then some (⟨(Lib.trimS s.data.toList c.data.toList).toArray⟩,()) else none
theorem zero116 (w:World):(zeroValue (Tryz.l160_ren.t 116)).run Tryz.prog w = .ok (.agg (Array.replicate 256 (.bool false))) w:=by
  have h:Tryz.prog.info? (Tryz.l160_ren.t 116)=some ((Tryz.prog.info? (Tryz.l160_ren.t 116)).getD default):=by kernel_rfl
  have h2:((Tryz.prog.info? (Tryz.l160_ren.t 116)).getD default).zero=some (.agg (Array.replicate 256 (.bool false))):=by kernel_rfl
  simp only[zeroValue,Sem.run_bind,Va.run_typeInfo h,Result.andThen_ok,h2,Sem.run_pure]
theorem ok:FnOk Tryz.prog 210 ia io (λv=>f v.1 v.2.1):=by
  refine leaf_ok ⟨Tryz.f210,Tryz.func210,by kernel_rfl,by kernel_rfl⟩ rfl (λ_=>rfl) (λ_=>rfl) (λv u h E w vals hgl hc => ?_)
  obtain⟨x,vs,rfl,h1,y,vs',rfl,h2,h3⟩:=hc
  have h3:vs'=[]:=h3
  subst h3
  have h1:x = .string v.1:=V_str.1 h1
  have h2:y = .string v.2.1:=V_str.1 h2
  subst h1 h2
  unfold f at h
  split at h
  · next hs=>
    injection h with h
    subst h
    refine (Any.strings_Trim_ascii Tryz.l160 zero116 (by kernel_rfl) v.1 v.2.1 w hs.1 hs.2.1 (λj b hj=>hs.2.2 b (List.mem_of_getElem? hj))).mono ?_
    rintro e w' ⟨rfl,hb⟩
    exact⟨_,rfl,⟨hb.os,hb.tape,hb.output,hb.size,hb.block⟩,λE=>V_str.2 rfl⟩
  · exact absurd h (by simp)
noncomputable def en:Entry:=mkEntry 210 ia io (λv=>f v.1 v.2.1)
end F_strings_Trim
namespace F_strings_Split
abbrev ia:List Ai:=[.dat .str,.dat .str]
abbrev io:List (Nat×Oi):=[(4,.val (.r 0 .str))]
noncomputable def f (s sep:ByteArray):Option (DOut ia io):=if s.size<4294967281∧1≤sep.size then some (Lib.splitB sep 0 (Lib.countB s sep) s,()) else none
theorem ok:FnOk Tryz.prog 209 ia io (λv=>f v.1 v.2.1):=by
  refine leaf_row_ok ⟨Tryz.f209,Tryz.func209,by kernel_rfl,by kernel_rfl⟩ rfl (λ_=>rfl) (λv u h E w vals hgl hc => ?_)
  obtain⟨x,vs,rfl,h1,y,vs',rfl,h2,h3⟩:=hc
  have h3:vs'=[]:=h3
  subst h3
  have h1:x = .string v.1:=V_str.1 h1
  have h2:y = .string v.2.1:=V_str.1 h2
  subst h1 h2
  unfold f at h
  split at h
  · next hs=>
    injection h with h
    subst h
    obtain⟨m,hm⟩:=maxLen_cell hgl
    refine (Any.strings_Split Tryz.l146 (by kernel_rfl) v.1 v.2.1 m w hs.1 hm hs.2).mono ?_
    rintro e w' ⟨rfl,rfl⟩
    have hl:=Lib.splitB_all v.2.1 hs.2 0 _ v.1 rfl
    refine⟨_,_,by rw[hl],rfl,λS w' => ?_⟩
    have:∀ l:List ByteArray,RdL (Rd S w' .str) l (l.map Value.string):=by
      intro l
      induction l with
      | nil=>rfl
      | cons x l ih=>exact⟨[.string x],l.map Value.string,rfl,rfl,ih⟩
    exact this _
  · exact absurd h (by simp)
noncomputable def en:Entry:=mkEntry 209 ia io (λv=>f v.1 v.2.1)
end F_strings_Split
end Go.Proofs.YtemhlkdingkjnaaGreatDoor
namespace Go.Proofs.YtemhlkdingkjnaaGreatDoor
open Go Go.Va Go.Proofs
namespace F_label_Clean
abbrev ia:List Ai:=[.dat .str]
abbrev io:List (Nat×Oi):=[(2,.dat .bool)]
abbrev R:Type:=DOut ia io
noncomputable def X (n:Nat):Ctx:=⟨⟨tab,[F_unicode_utf8_ValidString.en],0,[]⟩,21,bnOf 0 ia⟩
abbrev g1:List Si:=[.dat 0 .str,.val 6 (.r 200600 (.int .u8)),.dat 7 (.int .i64),.dat 8 (.int .i64)]
abbrev g2:List Si:=[.dat 0 .str]
noncomputable def T:CT:=(.s .o (.s (.s .o (.b (.l g1 .o))) (.r g2 .o)))
noncomputable def J1 (n:Nat)(m:Nat):ByteArray×(List (Int))×Int×Int×Unit→Option R:=jL (X n) n T (bodyOf Tryz.f181) (endK ia io) g1 [1,0,1,0] [] m
noncomputable def J2 (n:Nat):ByteArray×Unit→Option R:=jR (X n) n T (bodyOf Tryz.f181) (endK ia io) g2 [1,1] []
noncomputable def f (n:Nat)(s_:ByteArray):Option R:=fRun (X n) n T Tryz.f181 ia io (s_,())
theorem e0 (n:Nat)(s_:ByteArray):f n s_ =
  J1 n n (s_,(ofBytes s_),(((ofBytes s_).length:Nat):Int),0,()):=(hideF_eq _).trans (by kernel_rfl)
theorem e1 (n m:Nat) (s_:ByteArray) (t6:List (Int)) (t7:Int) (t8:Int):J1 n (m+1) (s_,t6,t7,t8,()) =
  bIf ((hide (decide (t8<t7)))) (
    gIf (0≤t8∧t8<((t6.length:Nat):Int)) (
      bIf ((hide (decide ((List.getD t6 (0+t8.toNat) 0)<(32:Int))))) (
        some (false,())
        ) (
        bIf ((hide ((List.getD t6 (0+t8.toNat) 0)==(127:Int)))) (
          some (false,())
          ) (
          J1 n m (s_,t6,t7,(IntKind.i64.wrap (t8+(1:Int))),())
          )
        )
      )
    ) (
    J2 n (s_,())
    ):=(hideF_eq _).trans (by kernel_rfl)
theorem e2 (n:Nat)(s_:ByteArray):J2 n (s_,()) =
  bnd (F_unicode_utf8_ValidString.f s_) λu1=>
  some (u1.1,()):=(hideF_eq _).trans (by kernel_rfl)
theorem phi (n:Nat):∀ e∈(X n).c.Φ,EntryOk Tryz.prog e:=allE_cons (mkEntry_ok (F_unicode_utf8_ValidString.ok)) (allE_nil)
theorem ok (n:Nat):FnOk Tryz.prog 181 ia io (fRun (X n) n T Tryz.f181 ia io):=tree_ok mixed tabIs (phi n) Tryz.func181 (by kernel_rfl) rfl
noncomputable def en (n:Nat):Entry:=mkEntry 181 ia io (fRun (X n) n T Tryz.f181 ia io)
end F_label_Clean
end Go.Proofs.YtemhlkdingkjnaaGreatDoor
namespace Go.Proofs.YtemhlkdingkjnaaGreatDoor
open Go Go.Va Go.Proofs
namespace F_ref06_Clean
abbrev ia:List Ai:=[.dat .str]
abbrev io:List (Nat×Oi):=[(2,.dat .bool)]
abbrev R:Type:=DOut ia io
noncomputable def X (n:Nat):Ctx:=⟨⟨tab,[],0,[]⟩,109,bnOf 0 ia⟩
abbrev g1:List Si:=[.dat 0 .str,.dat 3 (.int .i64)]
abbrev g2:List Si:=[.dat 0 .str,.dat 3 (.int .i64),.dat 4 (.int .i64),.dat 21 .bool]
abbrev g3:List Si:=[.dat 0 .str,.dat 3 (.int .i64),.dat 4 (.int .i64),.dat 30 .bool]
abbrev g4:List Si:=[.dat 0 .str,.dat 3 (.int .i64),.dat 4 (.int .i64),.dat 39 .bool]
abbrev g5:List Si:=[.dat 0 .str,.dat 3 (.int .i64),.dat 4 (.int .i64),.dat 5 (.int .i64),.dat 6 (.int .i64),.dat 7 (.int .i64)]
abbrev g6:List Si:=[.dat 0 .str,.dat 3 (.int .i64),.dat 5 (.int .i64),.dat 6 (.int .i64),.dat 7 (.int .i64)]
abbrev g7:List Si:=[.dat 0 .str,.dat 3 (.int .i64),.dat 5 (.int .i64),.dat 6 (.int .i64),.dat 7 (.int .i64),.dat 8 (.int .i64)]
abbrev g8:List Si:=[.dat 0 .str,.dat 3 (.int .i64),.dat 5 (.int .i64),.dat 6 (.int .i64),.dat 7 (.int .i64),.dat 8 (.int .i64)]
abbrev g9:List Si:=[.dat 0 .str,.dat 3 (.int .i64),.dat 5 (.int .i64),.dat 6 (.int .i64),.dat 7 (.int .i64),.dat 8 (.int .i64)]
abbrev g10:List Si:=[.dat 0 .str,.dat 3 (.int .i64),.dat 5 (.int .i64),.dat 6 (.int .i64),.dat 7 (.int .i64)]
abbrev g11:List Si:=[.dat 0 .str,.dat 3 (.int .i64),.dat 5 (.int .i64)]
abbrev g12:List Si:=[]
noncomputable def T:CT:=(.s .o (.s (.s .o (.b (.l g1 (.s .o (.b (.s .o (.s .o (.s (.b (.s .o (.c .o (.s .o (.r g2 (.c .o (.s .o (.r g3 (.c .o (.s .o (.r g4 .o))))))))))) (.r g5 (.s .o (.r g6 (.s (.s .o (.b (.l g7 (.s .o (.s (.b (.s .o (.r g8 .o))) (.r g9 .o)))))) (.r g10 (.s .o (.r g11 .o))))))))))))))) (.r g12 .o)))
noncomputable def J1 (n:Nat)(m:Nat):ByteArray×Int×Unit→Option R:=jL (X n) n T (bodyOf Tryz.f84) (endK ia io) g1 [1,0,1,0] [] m
noncomputable def J2 (n m1:Nat):ByteArray×Int×Int×Bool×Unit→Option R:=jR (X n) n T (bodyOf Tryz.f84) (endK ia io) g2 [1,0,1,0,0,1,0,1,1,0,0,1,1,1] [m1]
noncomputable def J3 (n m1:Nat):ByteArray×Int×Int×Bool×Unit→Option R:=jR (X n) n T (bodyOf Tryz.f84) (endK ia io) g3 [1,0,1,0,0,1,0,1,1,0,0,1,1,1,1,1] [m1]
noncomputable def J4 (n m1:Nat):ByteArray×Int×Int×Bool×Unit→Option R:=jR (X n) n T (bodyOf Tryz.f84) (endK ia io) g4 [1,0,1,0,0,1,0,1,1,0,0,1,1,1,1,1,1,1] [m1]
noncomputable def J5 (n m1:Nat):ByteArray×Int×Int×Int×Int×Int×Unit→Option R:=jR (X n) n T (bodyOf Tryz.f84) (endK ia io) g5 [1,0,1,0,0,1,0,1,1,1] [m1]
noncomputable def J6 (n m1:Nat):ByteArray×Int×Int×Int×Int×Unit→Option R:=jR (X n) n T (bodyOf Tryz.f84) (endK ia io) g6 [1,0,1,0,0,1,0,1,1,1,1] [m1]
noncomputable def J7 (n m1:Nat)(m:Nat):ByteArray×Int×Int×Int×Int×Int×Unit→Option R:=jL (X n) n T (bodyOf Tryz.f84) (endK ia io) g7 [1,0,1,0,0,1,0,1,1,1,1,0,1,0] [m1] m
noncomputable def J8 (n m1 m7:Nat):ByteArray×Int×Int×Int×Int×Int×Unit→Option R:=jR (X n) n T (bodyOf Tryz.f84) (endK ia io) g8 [1,0,1,0,0,1,0,1,1,1,1,0,1,0,0,1,0,0,1] [m1,m7]
noncomputable def J9 (n m1 m7:Nat):ByteArray×Int×Int×Int×Int×Int×Unit→Option R:=jR (X n) n T (bodyOf Tryz.f84) (endK ia io) g9 [1,0,1,0,0,1,0,1,1,1,1,0,1,0,0,1,1] [m1,m7]
noncomputable def J10 (n m1:Nat):ByteArray×Int×Int×Int×Int×Unit→Option R:=jR (X n) n T (bodyOf Tryz.f84) (endK ia io) g10 [1,0,1,0,0,1,0,1,1,1,1,1] [m1]
noncomputable def J11 (n m1:Nat):ByteArray×Int×Int×Unit→Option R:=jR (X n) n T (bodyOf Tryz.f84) (endK ia io) g11 [1,0,1,0,0,1,0,1,1,1,1,1,1] [m1]
noncomputable def J12 (n:Nat):Unit→Option R:=jR (X n) n T (bodyOf Tryz.f84) (endK ia io) g12 [1,1] []
noncomputable def f (n:Nat)(s_:ByteArray):Option R:=fRun (X n) n T Tryz.f84 ia io (s_,())
theorem e0 (n:Nat)(s_:ByteArray):f n s_ =
  J1 n n (s_,0,()):=(hideF_eq _).trans (by kernel_rfl)
theorem e1 (n m:Nat) (s_:ByteArray) (at_:Int):J1 n (m+1) (s_,at_,()) =
  bIf ((hide (decide (at_<(s_.size:Int))))) (
    gIf (0≤at_∧at_<(s_.size:Int)) (
      bIf ((hide (decide ((IntKind.i64.wrap (bt s_ at_))<(128:Int))))) (
        J5 n m (s_,at_,(IntKind.i64.wrap (bt s_ at_)),1,(IntKind.i64.wrap (bt s_ at_)),0,())
        ) (
        bIf ((hide (decide ((IntKind.i64.wrap (bt s_ at_))≥(192:Int))))) (
          J2 n m (s_,at_,(IntKind.i64.wrap (bt s_ at_)),(hide (decide ((IntKind.i64.wrap (bt s_ at_))<(224:Int)))),())
          ) (
          J2 n m (s_,at_,(IntKind.i64.wrap (bt s_ at_)),false,())
          )
        )
      )
    ) (
    J12 n (())
    ):=(hideF_eq _).trans (by kernel_rfl)
theorem e2 (n m1:Nat)(s_:ByteArray)(at_:Int)(b:Int)(t21:Bool):J2 n m1 (s_,at_,b,t21,()) =
  bIf (t21) (
    J5 n m1 (s_,at_,b,2,(IntKind.i64.wrap (b-(192:Int))),128,())
    ) (
    bIf ((hide (decide (b≥(224:Int))))) (
      J3 n m1 (s_,at_,b,(hide (decide (b<(240:Int)))),())
      ) (
      J3 n m1 (s_,at_,b,false,())
      )
    ):=(hideF_eq _).trans (by kernel_rfl)
theorem e3 (n m1:Nat)(s_:ByteArray)(at_:Int)(b:Int)(t30:Bool):J3 n m1 (s_,at_,b,t30,()) =
  bIf (t30) (
    J5 n m1 (s_,at_,b,3,(IntKind.i64.wrap (b-(224:Int))),2048,())
    ) (
    bIf ((hide (decide (b≥(240:Int))))) (
      J4 n m1 (s_,at_,b,(hide (decide (b<(248:Int)))),())
      ) (
      J4 n m1 (s_,at_,b,false,())
      )
    ):=(hideF_eq _).trans (by kernel_rfl)
theorem e4 (n m1:Nat)(s_:ByteArray)(at_:Int)(b:Int)(t39:Bool):J4 n m1 (s_,at_,b,t39,()) =
  bIf (t39) (
    J5 n m1 (s_,at_,b,4,(IntKind.i64.wrap (b-(240:Int))),65536,())
    ) (
    some (false,())
    ):=(hideF_eq _).trans (by kernel_rfl)
theorem e5 (n m1:Nat)(s_:ByteArray)(at_:Int)(b:Int)(n_:Int)(r:Int)(least:Int):J5 n m1 (s_,at_,b,n_,r,least,()) =
  bIf ((hide (decide (b<(32:Int))))) (
    some (false,())
    ) (
    bIf ((hide (b==(127:Int)))) (
      some (false,())
      ) (
      J6 n m1 (s_,at_,n_,r,least,())
      )
    ):=(hideF_eq _).trans (by kernel_rfl)
theorem e6 (n m1:Nat)(s_:ByteArray)(at_:Int)(n_:Int)(r:Int)(least:Int):J6 n m1 (s_,at_,n_,r,least,()) =
  J7 n m1 n (s_,at_,n_,r,least,1,()):=(hideF_eq _).trans (by kernel_rfl)
theorem e7 (n m1 m:Nat) (s_:ByteArray) (at_:Int) (n_:Int) (r:Int) (least:Int) (i:Int):J7 n m1 (m+1) (s_,at_,n_,r,least,i,()) =
  bIf ((hide (decide (i<n_)))) (
    bIf ((hide (decide ((IntKind.i64.wrap (at_+i))≥(s_.size:Int))))) (
      some (false,())
      ) (
      gIf (0≤(IntKind.i64.wrap (at_+i))∧(IntKind.i64.wrap (at_+i))<(s_.size:Int)) (
        bIf ((hide (decide ((bt s_ (IntKind.i64.wrap (at_+i)))<(128:Int))))) (
          some (false,())
          ) (
          gIf (0≤(IntKind.i64.wrap (at_+i))∧(IntKind.i64.wrap (at_+i))<(s_.size:Int)) (
            bIf ((hide (decide ((bt s_ (IntKind.i64.wrap (at_+i)))≥(192:Int))))) (
              some (false,())
              ) (
              J8 n m1 m (s_,at_,n_,r,least,i,())
              )
            )
          )
        )
      )
    ) (
    J10 n m1 (s_,at_,n_,r,least,())
    ):=(hideF_eq _).trans (by kernel_rfl)
theorem e8 (n m1 m7:Nat)(s_:ByteArray)(at_:Int)(n_:Int)(r:Int)(least:Int)(i:Int):J8 n m1 m7 (s_,at_,n_,r,least,i,()) =
  gIf (0≤(IntKind.i64.wrap (at_+i))∧(IntKind.i64.wrap (at_+i))<(s_.size:Int)) (
    J9 n m1 m7 (s_,at_,n_,(IntKind.i64.wrap ((IntKind.i64.wrap ((IntKind.i64.wrap (r*(64:Int)))+(IntKind.i64.wrap (bt s_ (IntKind.i64.wrap (at_+i))))))-(128:Int))),least,i,())
    ):=(hideF_eq _).trans (by kernel_rfl)
theorem e9 (n m1 m7:Nat)(s_:ByteArray)(at_:Int)(n_:Int)(r:Int)(least:Int)(i:Int):J9 n m1 m7 (s_,at_,n_,r,least,i,()) =
  J7 n m1 m7 (s_,at_,n_,r,least,(IntKind.i64.wrap (i+(1:Int))),()):=(hideF_eq _).trans (by kernel_rfl)
theorem e10 (n m1:Nat) (s_:ByteArray) (at_:Int) (n_:Int) (r:Int) (least:Int):J10 n m1 (s_,at_,n_,r,least,()) =
  bIf ((hide (decide (r<least)))) (
    some (false,())
    ) (
    bIf ((hide (decide (r>(1114111:Int))))) (
      some (false,())
      ) (
      bIf ((hide (decide (r≥(55296:Int))))) (
        bIf ((hide (decide (r≤(57343:Int))))) (
          some (false,())
          ) (
          J11 n m1 (s_,at_,n_,())
          )
        ) (
        J11 n m1 (s_,at_,n_,())
        )
      )
    ):=(hideF_eq _).trans (by kernel_rfl)
theorem e11 (n m1:Nat)(s_:ByteArray)(at_:Int)(n_:Int):J11 n m1 (s_,at_,n_,()) =
  J1 n m1 (s_,(IntKind.i64.wrap (at_+n_)),()):=(hideF_eq _).trans (by kernel_rfl)
theorem e12 (n:Nat):J12 n (()) =
  some (true,()):=(hideF_eq _).trans (by kernel_rfl)
theorem phi (n:Nat):∀ e∈(X n).c.Φ,EntryOk Tryz.prog e:=allE_nil
theorem ok (n:Nat):FnOk Tryz.prog 84 ia io (fRun (X n) n T Tryz.f84 ia io):=tree_ok mixed tabIs (phi n) Tryz.func84 (by kernel_rfl) rfl
noncomputable def en (n:Nat):Entry:=mkEntry 84 ia io (fRun (X n) n T Tryz.f84 ia io)
end F_ref06_Clean
end Go.Proofs.YtemhlkdingkjnaaGreatDoor
namespace Go.Proofs.YtemhlkdingkjnaaGreatDoor
open Go Go.Va Go.Proofs
namespace F_when_Clamp
abbrev ia:List Ai:=[.dat (.int .i64)]
abbrev io:List (Nat×Oi):=[(2,.dat (.int .i64))]
abbrev R:Type:=DOut ia io
noncomputable def X (n:Nat):Ctx:=⟨⟨tab,[],0,[]⟩,6,bnOf 0 ia⟩
noncomputable def T:CT := .o
noncomputable def f (n:Nat)(t:Int):Option R:=fRun (X n) n T Tryz.f64 ia io (t,())
theorem e0 (n:Nat)(t:Int):f n t =
  some ((maxI .i64 (-62135596800) (minI .i64 t 253402300799)),()):=(hideF_eq _).trans (by kernel_rfl)
theorem phi (n:Nat):∀ e∈(X n).c.Φ,EntryOk Tryz.prog e:=allE_nil
theorem ok (n:Nat):FnOk Tryz.prog 64 ia io (fRun (X n) n T Tryz.f64 ia io):=tree_ok mixed tabIs (phi n) Tryz.func64 (by kernel_rfl) rfl
noncomputable def en (n:Nat):Entry:=mkEntry 64 ia io (fRun (X n) n T Tryz.f64 ia io)
end F_when_Clamp
end Go.Proofs.YtemhlkdingkjnaaGreatDoor
namespace Go.Proofs.YtemhlkdingkjnaaGreatDoor
open Go Go.Va Go.Proofs
namespace F_ref05_Clamp
abbrev ia:List Ai:=[.dat (.int .i64)]
abbrev io:List (Nat×Oi):=[(2,.dat (.int .i64))]
abbrev R:Type:=DOut ia io
noncomputable def X (n:Nat):Ctx:=⟨⟨tab,[],0,[]⟩,8,bnOf 0 ia⟩
noncomputable def T:CT := .o
noncomputable def f (n:Nat)(t:Int):Option R:=fRun (X n) n T Tryz.f42 ia io (t,())
theorem e0 (n:Nat)(t:Int):f n t =
  bIf ((hide (decide (t<(-62135596800:Int))))) (
    some ((-62135596800),())
    ) (
    bIf ((hide (decide (t>(253402300799:Int))))) (
      some (253402300799,())
      ) (
      some (t,())
      )
    ):=(hideF_eq _).trans (by kernel_rfl)
theorem phi (n:Nat):∀ e∈(X n).c.Φ,EntryOk Tryz.prog e:=allE_nil
theorem ok (n:Nat):FnOk Tryz.prog 42 ia io (fRun (X n) n T Tryz.f42 ia io):=tree_ok mixed tabIs (phi n) Tryz.func42 (by kernel_rfl) rfl
noncomputable def en (n:Nat):Entry:=mkEntry 42 ia io (fRun (X n) n T Tryz.f42 ia io)
end F_ref05_Clamp
end Go.Proofs.YtemhlkdingkjnaaGreatDoor
namespace Go.Proofs.YtemhlkdingkjnaaGreatDoor
open Go Go.Va Go.Proofs
namespace F_mode_Sound
abbrev ia:List Ai:=[.dat T_api_Lock]
abbrev io:List (Nat×Oi):=[(2,.dat .bool)]
abbrev R:Type:=DOut ia io
noncomputable def X (n:Nat):Ctx:=⟨⟨tab,[F_when_Clamp.en n],0,[]⟩,19,bnOf 0 ia⟩
abbrev g1:List Si:=[.ref 1 1 T_api_Lock,.dat 10 .bool,.box 1 (.d T_api_Lock)]
noncomputable def T:CT:=(.s .o (.s (.s .o (.b (.s .o (.c .o (.s .o (.r g1 .o)))))) .o))
noncomputable def J1 (n:Nat):Bool×D_api_Lock×Unit→Option R:=jR (X n) n T (bodyOf Tryz.f194) (endK ia io) g1 [1,0,1,0,1,1,1] []
noncomputable def f (n:Nat)(l:D_api_Lock):Option R:=fRun (X n) n T Tryz.f194 ia io (l,())
theorem e0 (n:Nat)(l:D_api_Lock):f n l =
  bIf ((hide (l.1==(0:Int)))) (
    some ((hide (l.2.1==(0:Int))),())
    ) (
    bIf ((hide (l.1==(1:Int)))) (
      J1 n (true,l,())
      ) (
      J1 n ((hide (l.1==(2:Int))),l,())
      )
    ):=(hideF_eq _).trans (by kernel_rfl)
theorem e1 (n:Nat)(t10:Bool)(l:D_api_Lock):J1 n (t10,l,()) =
  bIf (t10) (
    bnd (F_when_Clamp.f n l.2.1) λu1=>
    some ((hide (l.2.1==u1.1)),())
    ) (
    some (false,())
    ):=(hideF_eq _).trans (by kernel_rfl)
theorem phi (n:Nat):∀ e∈(X n).c.Φ,EntryOk Tryz.prog e:=allE_cons (mkEntry_ok (F_when_Clamp.ok n)) (allE_nil)
theorem ok (n:Nat):FnOk Tryz.prog 194 ia io (fRun (X n) n T Tryz.f194 ia io):=tree_ok mixed tabIs (phi n) Tryz.func194 (by kernel_rfl) rfl
noncomputable def en (n:Nat):Entry:=mkEntry 194 ia io (fRun (X n) n T Tryz.f194 ia io)
end F_mode_Sound
end Go.Proofs.YtemhlkdingkjnaaGreatDoor
namespace Go.Proofs.YtemhlkdingkjnaaGreatDoor
open Go Go.Va Go.Proofs
namespace F_ref12_Sound
abbrev ia:List Ai:=[.dat T_api_Lock]
abbrev io:List (Nat×Oi):=[(2,.dat .bool)]
abbrev R:Type:=DOut ia io
noncomputable def X (n:Nat):Ctx:=⟨⟨tab,[F_ref05_Clamp.en n],0,[]⟩,25,bnOf 0 ia⟩
noncomputable def T:CT := .o
noncomputable def f (n:Nat)(l:D_api_Lock):Option R:=fRun (X n) n T Tryz.f189 ia io (l,())
theorem e0 (n:Nat) (l:D_api_Lock):f n l =
  bIf ((hide (l.1==(0:Int)))) (
    some ((hide (l.2.1==(0:Int))),())
    ) (
    bIf ((hide (l.1==(1:Int)))) (
      bnd (F_ref05_Clamp.f n l.2.1) λu1=>
      some ((hide (u1.1==l.2.1)),())
      ) (
      bIf ((hide (l.1==(2:Int)))) (
        bnd (F_ref05_Clamp.f n l.2.1) λu2=>
        some ((hide (u2.1==l.2.1)),())
        ) (
        some (false,())
        )
      )
    ):=(hideF_eq _).trans (by kernel_rfl)
theorem phi (n:Nat):∀ e∈(X n).c.Φ,EntryOk Tryz.prog e:=allE_cons (mkEntry_ok (F_ref05_Clamp.ok n)) (allE_nil)
theorem ok (n:Nat):FnOk Tryz.prog 189 ia io (fRun (X n) n T Tryz.f189 ia io):=tree_ok mixed tabIs (phi n) Tryz.func189 (by kernel_rfl) rfl
noncomputable def en (n:Nat):Entry:=mkEntry 189 ia io (fRun (X n) n T Tryz.f189 ia io)
end F_ref12_Sound
end Go.Proofs.YtemhlkdingkjnaaGreatDoor
namespace Go.Proofs.YtemhlkdingkjnaaGreatDoor
open Go Go.Va Go.Proofs
namespace F_tags_good
abbrev ia:List Ai:=[.dat T_api_Tag]
abbrev io:List (Nat×Oi):=[(2,.dat .bool)]
abbrev R:Type:=DOut ia io
noncomputable def X (n:Nat):Ctx:=⟨⟨tab,[F_label_Clean.en n],0,[]⟩,28,bnOf 0 ia⟩
noncomputable def T:CT := .o
noncomputable def f (n:Nat)(t:D_api_Tag):Option R:=fRun (X n) n T Tryz.f217 ia io (t,())
theorem e0 (n:Nat) (t:D_api_Tag):f n t =
  bIf ((hide (!eqS t.1 (⟨#[]⟩:ByteArray)))) (
    bIf ((hide (decide ((t.1.size:Int)≤(64:Int))))) (
      bIf ((hide (decide ((t.2.1.size:Int)≤(64:Int))))) (
        bnd (F_label_Clean.f n t.1) λu1=>
        bIf (u1.1) (
          bnd (F_label_Clean.f n t.2.1) λu2=>
          some (u2.1,())
          ) (
          some (false,())
          )
        ) (
        some (false,())
        )
      ) (
      some (false,())
      )
    ) (
    some (false,())
    ):=(hideF_eq _).trans (by kernel_rfl)
theorem phi (n:Nat):∀ e∈(X n).c.Φ,EntryOk Tryz.prog e:=allE_cons (mkEntry_ok (F_label_Clean.ok n)) (allE_nil)
theorem ok (n:Nat):FnOk Tryz.prog 217 ia io (fRun (X n) n T Tryz.f217 ia io):=tree_ok mixed tabIs (phi n) Tryz.func217 (by kernel_rfl) rfl
noncomputable def en (n:Nat):Entry:=mkEntry 217 ia io (fRun (X n) n T Tryz.f217 ia io)
end F_tags_good
end Go.Proofs.YtemhlkdingkjnaaGreatDoor
namespace Go.Proofs.YtemhlkdingkjnaaGreatDoor
open Go Go.Va Go.Proofs
namespace F_tags_Sound
abbrev ia:List Ai:=[.dat (.slice T_api_Tag)]
abbrev io:List (Nat×Oi):=[(2,.dat .bool)]
abbrev R:Type:=DOut ia io
noncomputable def X (n:Nat):Ctx:=⟨⟨tab,[F_tags_good.en n],0,[]⟩,34,bnOf 0 ia⟩
abbrev g1:List Si:=[.dat 0 (.slice T_api_Tag),.dat 8 (.slice T_api_Tag),.dat 9 (.int .i64),.dat 10 (.int .i64)]
abbrev g2:List Si:=[]
noncomputable def T:CT:=(.s .o (.s .o (.s (.s .o (.b (.l g1 .o))) (.r g2 .o))))
noncomputable def J1 (n:Nat)(m:Nat):(List (D_api_Tag))×(List (D_api_Tag))×Int×Int×Unit→Option R:=jL (X n) n T (bodyOf Tryz.f174) (endK ia io) g1 [1,1,0,1,0] [] m
noncomputable def J2 (n:Nat):Unit→Option R:=jR (X n) n T (bodyOf Tryz.f174) (endK ia io) g2 [1,1,1] []
noncomputable def f (n:Nat)(list:List (D_api_Tag)):Option R:=fRun (X n) n T Tryz.f174 ia io (list,())
theorem e0 (n:Nat)(list:List (D_api_Tag)):f n list =
  bIf ((hide (decide (((list.length:Nat):Int)>(8:Int))))) (
    some (false,())
    ) (
    J1 n n (list,list,((list.length:Nat):Int),0,())
    ):=(hideF_eq _).trans (by kernel_rfl)
theorem e1 (n m:Nat) (list:List (D_api_Tag)) (t8:List (D_api_Tag)) (t9:Int) (t10:Int):J1 n (m+1) (list,t8,t9,t10,()) =
  bIf ((hide (decide (t10<t9)))) (
    gIf (0≤t10∧t10<((t8.length:Nat):Int)) (
      bnd (F_tags_good.f n (List.getD t8 t10.toNat (Va.dflt T_api_Tag))) λu1=>
      bIf ((!u1.1)) (
        some (false,())
        ) (
        bIf ((hide (decide (t10>(0:Int))))) (
          gIf (0≤(IntKind.i64.wrap (t10-(1:Int)))∧(IntKind.i64.wrap (t10-(1:Int)))<((list.length:Nat):Int)) (
            bIf ((hide (!ltS ((List.getD list ((IntKind.i64.wrap (t10-(1:Int))).toNat) (Va.dflt T_api_Tag)).1) ((List.getD t8 t10.toNat (Va.dflt T_api_Tag)).1)))) (
              some (false,())
              ) (
              J1 n m (list,t8,t9,(IntKind.i64.wrap (t10+(1:Int))),())
              )
            )
          ) (
          J1 n m (list,t8,t9,(IntKind.i64.wrap (t10+(1:Int))),())
          )
        )
      )
    ) (
    J2 n (())
    ):=(hideF_eq _).trans (by kernel_rfl)
theorem e2 (n:Nat):J2 n (()) =
  some (true,()):=(hideF_eq _).trans (by kernel_rfl)
theorem phi (n:Nat):∀ e∈(X n).c.Φ,EntryOk Tryz.prog e:=allE_cons (mkEntry_ok (F_tags_good.ok n)) (allE_nil)
theorem ok (n:Nat):FnOk Tryz.prog 174 ia io (fRun (X n) n T Tryz.f174 ia io):=tree_ok mixed tabIs (phi n) Tryz.func174 (by kernel_rfl) rfl
noncomputable def en (n:Nat):Entry:=mkEntry 174 ia io (fRun (X n) n T Tryz.f174 ia io)
end F_tags_Sound
end Go.Proofs.YtemhlkdingkjnaaGreatDoor
namespace Go.Proofs.YtemhlkdingkjnaaGreatDoor
open Go Go.Va Go.Proofs
namespace F_ref08_Sound
abbrev ia:List Ai:=[.dat (.slice T_api_Tag)]
abbrev io:List (Nat×Oi):=[(2,.dat .bool)]
abbrev R:Type:=DOut ia io
noncomputable def X (n:Nat):Ctx:=⟨⟨tab,[F_ref06_Clean.en n],0,[]⟩,72,bnOf 0 ia⟩
abbrev g1:List Si:=[.dat 0 (.slice T_api_Tag),.dat 3 (.int .i64)]
abbrev g2:List Si:=[.dat 0 (.slice T_api_Tag),.dat 3 (.int .i64)]
abbrev g3:List Si:=[.dat 0 (.slice T_api_Tag),.dat 3 (.int .i64)]
abbrev g4:List Si:=[]
noncomputable def T:CT:=(.s .o (.s .o (.s (.s .o (.b (.l g1 (.s .o (.s (.b (.s .o (.r g2 .o))) (.r g3 .o)))))) (.r g4 .o))))
noncomputable def J1 (n:Nat)(m:Nat):(List (D_api_Tag))×Int×Unit→Option R:=jL (X n) n T (bodyOf Tryz.f85) (endK ia io) g1 [1,1,0,1,0] [] m
noncomputable def J2 (n m1:Nat):(List (D_api_Tag))×Int×Unit→Option R:=jR (X n) n T (bodyOf Tryz.f85) (endK ia io) g2 [1,1,0,1,0,0,1,0,0,1] [m1]
noncomputable def J3 (n m1:Nat):(List (D_api_Tag))×Int×Unit→Option R:=jR (X n) n T (bodyOf Tryz.f85) (endK ia io) g3 [1,1,0,1,0,0,1,1] [m1]
noncomputable def J4 (n:Nat):Unit→Option R:=jR (X n) n T (bodyOf Tryz.f85) (endK ia io) g4 [1,1,1] []
noncomputable def f (n:Nat)(l:List (D_api_Tag)):Option R:=fRun (X n) n T Tryz.f85 ia io (l,())
theorem e0 (n:Nat)(l:List (D_api_Tag)):f n l =
  bIf ((hide (decide (((l.length:Nat):Int)>(8:Int))))) (
    some (false,())
    ) (
    J1 n n (l,0,())
    ):=(hideF_eq _).trans (by kernel_rfl)
theorem e1 (n m : Nat) (l:List (D_api_Tag)) (i:Int):J1 n (m+1) (l,i,()) =
  bIf ((hide (decide (i < ((l.length:Nat):Int))))) (
    gIf (0≤i∧i<((l.length:Nat):Int)) (
      bIf ((hide (decide ((((List.getD l i.toNat (Va.dflt T_api_Tag)).1).size:Int)<(1:Int))))) (
        some (false,())
        ) (
        gIf (0≤i∧i<((l.length:Nat):Int)) (
          bIf ((hide (decide ((((List.getD l i.toNat (Va.dflt T_api_Tag)).1).size:Int)>(64:Int))))) (
            some (false,())
            ) (
            gIf (0≤i∧i<((l.length:Nat):Int)) (
              bIf ((hide (decide (((((List.getD l i.toNat (Va.dflt T_api_Tag)).2).1).size:Int)>(64:Int))))) (
                some (false,())
                ) (
                gIf (0≤i∧i<((l.length:Nat):Int)) (
                  bnd (F_ref06_Clean.f n ((List.getD l i.toNat (Va.dflt T_api_Tag)).1)) λu1=>
                  bIf ((!u1.1)) (
                    some (false,())
                    ) (
                    gIf (0≤i∧i<((l.length:Nat):Int)) (
                      bnd (F_ref06_Clean.f n (((List.getD l i.toNat (Va.dflt T_api_Tag)).2).1)) λu2=>
                      bIf ((!u2.1)) (
                        some (false,())
                        ) (
                        J2 n m (l,i,())
                        )
                      )
                    )
                  )
                )
              )
            )
          )
        )
      )
    ) (
    J4 n (())
    ):=(hideF_eq _).trans (by kernel_rfl)
theorem e2 (n m1:Nat) (l:List (D_api_Tag)) (i:Int):J2 n m1 (l,i,()) =
  bIf ((hide (decide (i>(0:Int))))) (
    gIf (0≤i∧i<((l.length:Nat):Int)) (
      gIf (0≤(IntKind.i64.wrap (i-(1:Int)))∧(IntKind.i64.wrap (i-(1:Int)))<((l.length:Nat):Int)) (
        bIf ((hide (ltS ((List.getD l i.toNat (Va.dflt T_api_Tag)).1) ((List.getD l ((IntKind.i64.wrap (i-(1:Int))).toNat) (Va.dflt T_api_Tag)).1)||eqS ((List.getD l i.toNat (Va.dflt T_api_Tag)).1) ((List.getD l ((IntKind.i64.wrap (i-(1:Int))).toNat) (Va.dflt T_api_Tag)).1)))) (
          some (false,())
          ) (
          J3 n m1 (l,i,())
          )
        )
      )
    ) (
    J3 n m1 (l,i,())
    ):=(hideF_eq _).trans (by kernel_rfl)
theorem e3 (n m1:Nat)(l:List (D_api_Tag))(i:Int):J3 n m1 (l,i,()) =
  J1 n m1 (l,(IntKind.i64.wrap (i+(1:Int))),()):=(hideF_eq _).trans (by kernel_rfl)
theorem e4 (n:Nat):J4 n (()) =
  some (true,()):=(hideF_eq _).trans (by kernel_rfl)
theorem phi (n:Nat):∀ e∈(X n).c.Φ,EntryOk Tryz.prog e:=allE_cons (mkEntry_ok (F_ref06_Clean.ok n)) (allE_nil)
theorem ok (n:Nat):FnOk Tryz.prog 85 ia io (fRun (X n) n T Tryz.f85 ia io):=tree_ok mixed tabIs (phi n) Tryz.func85 (by kernel_rfl) rfl
noncomputable def en (n:Nat):Entry:=mkEntry 85 ia io (fRun (X n) n T Tryz.f85 ia io)
end F_ref08_Sound
end Go.Proofs.YtemhlkdingkjnaaGreatDoor
namespace Go.Proofs.YtemhlkdingkjnaaGreatDoor
open Go Go.Va Go.Proofs
namespace F_label_Key
abbrev ia:List Ai:=[.dat .str]
abbrev io:List (Nat×Oi):=[(2,.dat .bool)]
abbrev R:Type:=DOut ia io
noncomputable def X (n:Nat):Ctx:=⟨⟨tab,[F_label_Clean.en n],0,[]⟩,14,bnOf 0 ia⟩
noncomputable def T:CT := .o
noncomputable def f (n:Nat)(s_:ByteArray):Option R:=fRun (X n) n T Tryz.f118 ia io (s_,())
theorem e0 (n:Nat)(s_:ByteArray):f n s_ =
  bIf ((hide (!eqS s_ (⟨#[]⟩:ByteArray)))) (
    bIf ((hide (decide ((s_.size:Int)≤(200:Int))))) (
      bnd (F_label_Clean.f n s_) λu1=>
      some (u1.1,())
      ) (
      some (false,())
      )
    ) (
    some (false,())
    ):=(hideF_eq _).trans (by kernel_rfl)
theorem phi (n:Nat):∀ e∈(X n).c.Φ,EntryOk Tryz.prog e:=allE_cons (mkEntry_ok (F_label_Clean.ok n)) (allE_nil)
theorem ok (n:Nat):FnOk Tryz.prog 118 ia io (fRun (X n) n T Tryz.f118 ia io):=tree_ok mixed tabIs (phi n) Tryz.func118 (by kernel_rfl) rfl
noncomputable def en (n:Nat):Entry:=mkEntry 118 ia io (fRun (X n) n T Tryz.f118 ia io)
end F_label_Key
end Go.Proofs.YtemhlkdingkjnaaGreatDoor
namespace Go.Proofs.YtemhlkdingkjnaaGreatDoor
open Go Go.Va Go.Proofs
namespace F_ref06_Key
abbrev ia:List Ai:=[.dat .str]
abbrev io:List (Nat×Oi):=[(2,.dat .bool)]
abbrev R:Type:=DOut ia io
noncomputable def X (n:Nat):Ctx:=⟨⟨tab,[F_ref06_Clean.en n],0,[]⟩,15,bnOf 0 ia⟩
noncomputable def T:CT := .o
noncomputable def f (n:Nat)(s_:ByteArray):Option R:=fRun (X n) n T Tryz.f87 ia io (s_,())
theorem e0 (n:Nat)(s_:ByteArray):f n s_ =
  bIf ((hide (decide ((s_.size:Int)≥(1:Int))))) (
    bIf ((hide (decide ((s_.size:Int)≤(200:Int))))) (
      bnd (F_ref06_Clean.f n s_) λu1=>
      some (u1.1,())
      ) (
      some (false,())
      )
    ) (
    some (false,())
    ):=(hideF_eq _).trans (by kernel_rfl)
theorem phi (n:Nat):∀ e∈(X n).c.Φ,EntryOk Tryz.prog e:=allE_cons (mkEntry_ok (F_ref06_Clean.ok n)) (allE_nil)
theorem ok (n:Nat):FnOk Tryz.prog 87 ia io (fRun (X n) n T Tryz.f87 ia io):=tree_ok mixed tabIs (phi n) Tryz.func87 (by kernel_rfl) rfl
noncomputable def en (n:Nat):Entry:=mkEntry 87 ia io (fRun (X n) n T Tryz.f87 ia io)
end F_ref06_Key
end Go.Proofs.YtemhlkdingkjnaaGreatDoor
namespace Go.Proofs.YtemhlkdingkjnaaGreatDoor
open Go Go.Va Go.Proofs
namespace F_object_Good
abbrev ia:List Ai:=[.dat T_api_Version]
abbrev io:List (Nat×Oi):=[(2,.dat .bool)]
abbrev R:Type:=DOut ia io
noncomputable def X (n:Nat):Ctx:=⟨⟨tab,[F_when_Clamp.en n,F_tags_Sound.en n,F_mode_Sound.en n],0,[]⟩,65,bnOf 0 ia⟩
abbrev g1:List Si:=[.ref 1 1 T_api_Version,.box 1 (.d T_api_Version)]
noncomputable def T:CT:=(.s .o (.s .o (.r g1 .o)))
noncomputable def J1 (n:Nat):D_api_Version×Unit→Option R:=jR (X n) n T (bodyOf Tryz.f182) (endK ia io) g1 [1,1] []
noncomputable def f (n:Nat)(v_:D_api_Version):Option R:=fRun (X n) n T Tryz.f182 ia io (v_,())
theorem e0 (n:Nat)(v_:D_api_Version):f n v_ =
  bIf ((hide (v_.1==(0:Int)))) (
    some (false,())
    ) (
    bnd (F_when_Clamp.f n v_.2.2.2.2.2.1) λu1=>
    bIf ((hide (v_.2.2.2.2.2.1 != u1.1))) (
      some (false,())
      ) (
      J1 n (v_,())
      )
    ):=(hideF_eq _).trans (by kernel_rfl)
theorem e1 (n:Nat) (v_:D_api_Version):J1 n (v_,()) =
  bIf (v_.2.1) (
    bIf ((hide (v_.2.2.1==(0:Int)))) (
      bIf ((hide (v_.2.2.2.1==(0:Int)))) (
        bIf ((hide (eqD (.arr 32 (.int .u8)) v_.2.2.2.2.1 ([]++List.replicate (32-([]:List (Int)).length) 0)))) (
          bIf ((hide (eqD T_api_Lock v_.2.2.2.2.2.2.1 (0,(0,(false,())))))) (
            some ((hide (((v_.2.2.2.2.2.2.2.1.length:Nat):Int)==(0:Int))),())
            ) (
            some (false,())
            )
          ) (
          some (false,())
          )
        ) (
        some (false,())
        )
      ) (
      some (false,())
      )
    ) (
    bIf ((hide (decide (v_.2.2.1≥(0:Int))))) (
      bIf ((hide (decide (v_.2.2.1≤(16384:Int))))) (
        bIf ((hide (decide (v_.2.2.2.1>(0:Int))))) (
          bnd (F_mode_Sound.f n v_.2.2.2.2.2.2.1) λu1=>
          bIf (u1.1) (
            bnd (F_tags_Sound.f n v_.2.2.2.2.2.2.2.1) λu2=>
            some (u2.1,())
            ) (
            some (false,())
            )
          ) (
          some (false,())
          )
        ) (
        some (false,())
        )
      ) (
      some (false,())
      )
    ):=(hideF_eq _).trans (by kernel_rfl)
theorem phi (n:Nat):∀ e∈(X n).c.Φ,EntryOk Tryz.prog e:=allE_cons (mkEntry_ok (F_when_Clamp.ok n)) (allE_cons (mkEntry_ok (F_tags_Sound.ok n)) (allE_cons (mkEntry_ok (F_mode_Sound.ok n)) (allE_nil)))
theorem ok (n:Nat):FnOk Tryz.prog 182 ia io (fRun (X n) n T Tryz.f182 ia io):=tree_ok mixed tabIs (phi n) Tryz.func182 (by kernel_rfl) rfl
noncomputable def en (n:Nat):Entry:=mkEntry 182 ia io (fRun (X n) n T Tryz.f182 ia io)
end F_object_Good
end Go.Proofs.YtemhlkdingkjnaaGreatDoor
namespace Go.Proofs.YtemhlkdingkjnaaGreatDoor
open Go Go.Va Go.Proofs
namespace F_ref13_Good
abbrev ia:List Ai:=[.dat T_api_Version]
abbrev io:List (Nat×Oi):=[(2,.dat .bool)]
abbrev R:Type:=DOut ia io
noncomputable def X (n:Nat):Ctx:=⟨⟨tab,[F_ref05_Clamp.en n,F_ref08_Sound.en n,F_ref12_Sound.en n],0,[]⟩,82,bnOf 0 ia⟩
abbrev g1:List Si:=[.ref 1 1 T_api_Version,.box 1 (.d T_api_Version)]
abbrev g2:List Si:=[.ref 1 1 T_api_Version,.dat 3 (.int .i64),.box 1 (.d T_api_Version)]
abbrev g3:List Si:=[.ref 1 1 T_api_Version,.box 1 (.d T_api_Version)]
noncomputable def T:CT:=(.s .o (.s .o (.r g1 (.s .o (.s (.s .o (.b (.l g2 .o))) (.r g3 .o))))))
noncomputable def J1 (n:Nat):D_api_Version×Unit→Option R:=jR (X n) n T (bodyOf Tryz.f133) (endK ia io) g1 [1,1] []
noncomputable def J2 (n:Nat)(m:Nat):Int×D_api_Version×Unit→Option R:=jL (X n) n T (bodyOf Tryz.f133) (endK ia io) g2 [1,1,1,0,1,0] [] m
noncomputable def J3 (n:Nat):D_api_Version×Unit→Option R:=jR (X n) n T (bodyOf Tryz.f133) (endK ia io) g3 [1,1,1,1] []
noncomputable def f (n:Nat)(v_:D_api_Version):Option R:=fRun (X n) n T Tryz.f133 ia io (v_,())
theorem e0 (n:Nat)(v_:D_api_Version):f n v_ =
  bIf ((hide (decide (v_.1<(1:Int))))) (
    some (false,())
    ) (
    bnd (F_ref05_Clamp.f n v_.2.2.2.2.2.1) λu1=>
    bIf ((hide (u1.1 != v_.2.2.2.2.2.1))) (
      some (false,())
      ) (
      J1 n (v_,())
      )
    ):=(hideF_eq _).trans (by kernel_rfl)
theorem e1 (n:Nat) (v_:D_api_Version):J1 n (v_,()) =
  bIf ((!v_.2.1)) (
    bIf ((hide (decide (v_.2.2.1≥(0:Int))))) (
      bIf ((hide (decide (v_.2.2.1≤(16384:Int))))) (
        bIf ((hide (decide (v_.2.2.2.1≥(1:Int))))) (
          bnd (F_ref12_Sound.f n v_.2.2.2.2.2.2.1) λu1=>
          bIf (u1.1) (
            bnd (F_ref08_Sound.f n v_.2.2.2.2.2.2.2.1) λu2=>
            some (u2.1,())
            ) (
            some (false,())
            )
          ) (
          some (false,())
          )
        ) (
        some (false,())
        )
      ) (
      some (false,())
      )
    ) (
    J2 n n (0,v_,())
    ):=(hideF_eq _).trans (by kernel_rfl)
theorem e2 (n m:Nat) (i:Int) (v_:D_api_Version):J2 n (m+1) (i,v_,()) =
  bIf ((hide (decide (i<(32:Int))))) (
    gIf (0≤i∧i<((32:Nat):Int)) (
      bIf ((hide ((List.getD v_.2.2.2.2.1 i.toNat 0) != (0:Int)))) (
        some (false,())
        ) (
        J2 n m ((IntKind.i64.wrap (i+(1:Int))),v_,())
        )
      )
    ) (
    J3 n (v_,())
    ):=(hideF_eq _).trans (by kernel_rfl)
theorem e3 (n:Nat) (v_:D_api_Version):J3 n (v_,()) =
  bIf ((hide (v_.2.2.1==(0:Int)))) (
    bIf ((hide (v_.2.2.2.1==(0:Int)))) (
      bIf ((hide (v_.2.2.2.2.2.2.1.1==(0:Int)))) (
        bIf ((hide (v_.2.2.2.2.2.2.1.2.1==(0:Int)))) (
          bIf ((!v_.2.2.2.2.2.2.1.2.2.1)) (
            some ((hide (((v_.2.2.2.2.2.2.2.1.length:Nat):Int)==(0:Int))),())
            ) (
            some (false,())
            )
          ) (
          some (false,())
          )
        ) (
        some (false,())
        )
      ) (
      some (false,())
      )
    ) (
    some (false,())
    ):=(hideF_eq _).trans (by kernel_rfl)
theorem phi (n:Nat):∀ e∈(X n).c.Φ,EntryOk Tryz.prog e:=allE_cons (mkEntry_ok (F_ref05_Clamp.ok n)) (allE_cons (mkEntry_ok (F_ref08_Sound.ok n)) (allE_cons (mkEntry_ok (F_ref12_Sound.ok n)) (allE_nil)))
theorem ok (n:Nat):FnOk Tryz.prog 133 ia io (fRun (X n) n T Tryz.f133 ia io):=tree_ok mixed tabIs (phi n) Tryz.func133 (by kernel_rfl) rfl
noncomputable def en (n:Nat):Entry:=mkEntry 133 ia io (fRun (X n) n T Tryz.f133 ia io)
end F_ref13_Good
end Go.Proofs.YtemhlkdingkjnaaGreatDoor
namespace Go.Proofs.YtemhlkdingkjnaaGreatDoor
open Go Go.Va Go.Proofs
namespace F_mode_Good
abbrev ia:List Ai:=[.dat T_api_Default]
abbrev io:List (Nat×Oi):=[(2,.dat .bool)]
abbrev R:Type:=DOut ia io
noncomputable def X (n:Nat):Ctx:=⟨⟨tab,[],0,[]⟩,21,bnOf 0 ia⟩
abbrev g1:List Si:=[.ref 1 1 T_api_Default,.dat 10 .bool,.box 1 (.d T_api_Default)]
noncomputable def T:CT:=(.s .o (.s (.s .o (.b (.s .o (.c .o (.s .o (.r g1 .o)))))) .o))
noncomputable def J1 (n:Nat):Bool×D_api_Default×Unit→Option R:=jR (X n) n T (bodyOf Tryz.f102) (endK ia io) g1 [1,0,1,0,1,1,1] []
noncomputable def f (n:Nat)(d:D_api_Default):Option R:=fRun (X n) n T Tryz.f102 ia io (d,())
theorem e0 (n:Nat)(d:D_api_Default):f n d =
  bIf ((hide (d.1==(0:Int)))) (
    some ((hide (d.2.1==(0:Int))),())
    ) (
    bIf ((hide (d.1==(1:Int)))) (
      J1 n (true,d,())
      ) (
      J1 n ((hide (d.1==(2:Int))),d,())
      )
    ):=(hideF_eq _).trans (by kernel_rfl)
theorem e1 (n:Nat)(t10:Bool)(d:D_api_Default):J1 n (t10,d,()) =
  bIf (t10) (
    bIf ((hide (decide (d.2.1≥(1:Int))))) (
      some ((hide (decide (d.2.1≤(36500:Int)))),())
      ) (
      some (false,())
      )
    ) (
    some (false,())
    ):=(hideF_eq _).trans (by kernel_rfl)
theorem phi (n:Nat):∀ e∈(X n).c.Φ,EntryOk Tryz.prog e:=allE_nil
theorem ok (n:Nat):FnOk Tryz.prog 102 ia io (fRun (X n) n T Tryz.f102 ia io):=tree_ok mixed tabIs (phi n) Tryz.func102 (by kernel_rfl) rfl
noncomputable def en (n:Nat):Entry:=mkEntry 102 ia io (fRun (X n) n T Tryz.f102 ia io)
end F_mode_Good
end Go.Proofs.YtemhlkdingkjnaaGreatDoor
namespace Go.Proofs.YtemhlkdingkjnaaGreatDoor
open Go Go.Va Go.Proofs
namespace F_ref12_Good
abbrev ia:List Ai:=[.dat T_api_Default]
abbrev io:List (Nat×Oi):=[(2,.dat .bool)]
abbrev R:Type:=DOut ia io
noncomputable def X (n:Nat):Ctx:=⟨⟨tab,[],0,[]⟩,27,bnOf 0 ia⟩
noncomputable def T:CT := .o
noncomputable def f (n:Nat)(d:D_api_Default):Option R:=fRun (X n) n T Tryz.f44 ia io (d,())
theorem e0 (n:Nat) (d:D_api_Default):f n d =
  bIf ((hide (d.1==(0:Int)))) (
    some ((hide (d.2.1==(0:Int))),())
    ) (
    bIf ((hide (d.1==(1:Int)))) (
      bIf ((hide (decide (d.2.1≥(1:Int))))) (
        some ((hide (decide (d.2.1≤(36500:Int)))),())
        ) (
        some (false,())
        )
      ) (
      bIf ((hide (d.1==(2:Int)))) (
        bIf ((hide (decide (d.2.1≥(1:Int))))) (
          some ((hide (decide (d.2.1≤(36500:Int)))),())
          ) (
          some (false,())
          )
        ) (
        some (false,())
        )
      )
    ):=(hideF_eq _).trans (by kernel_rfl)
theorem phi (n:Nat):∀ e∈(X n).c.Φ,EntryOk Tryz.prog e:=allE_nil
theorem ok (n:Nat):FnOk Tryz.prog 44 ia io (fRun (X n) n T Tryz.f44 ia io):=tree_ok mixed tabIs (phi n) Tryz.func44 (by kernel_rfl) rfl
noncomputable def en (n:Nat):Entry:=mkEntry 44 ia io (fRun (X n) n T Tryz.f44 ia io)
end F_ref12_Good
end Go.Proofs.YtemhlkdingkjnaaGreatDoor
namespace Go.Proofs.YtemhlkdingkjnaaGreatDoor
open Go Go.Va Go.Proofs
namespace F_glob_pieces
abbrev ia:List Ai:=[.dat .str]
abbrev io:List (Nat×Oi):=[(2,.val (.r 0 T_glob_piece)),(3,.dat .bool)]
abbrev R:Type:=DOut ia io
noncomputable def X (n:Nat):Ctx:=⟨⟨tab,[],0,[]⟩,46,bnOf 0 ia⟩
abbrev g1:List Si:=[.dat 0 .str,.val 4 (.r 200400 T_glob_piece),.dat 5 (.int .i64)]
abbrev g2:List Si:=[.dat 0 .str,.val 4 (.r 200400 T_glob_piece),.dat 5 (.int .i64)]
abbrev g3:List Si:=[.dat 0 .str,.val 4 (.r 200400 T_glob_piece),.dat 5 (.int .i64)]
abbrev g4:List Si:=[.val 4 (.r 200400 T_glob_piece)]
noncomputable def T:CT:=(.s .o (.s .o (.s .o (.s (.s .o (.b (.l g1 (.s .o (.s (.b (.s .o (.b (.s .o (.r g2 .o))))) (.r g3 .o)))))) (.r g4 .o)))))
noncomputable def J1 (n:Nat)(m:Nat):ByteArray×(List (D_glob_piece))×Int×Unit→Option R:=jL (X n) n T (bodyOf Tryz.f214) (endK ia io) g1 [1,1,1,0,1,0] [] m
noncomputable def J2 (n m1:Nat):ByteArray×(List (D_glob_piece))×Int×Unit→Option R:=jR (X n) n T (bodyOf Tryz.f214) (endK ia io) g2 [1,1,1,0,1,0,0,1,0,0,1,0,1] [m1]
noncomputable def J3 (n m1:Nat):ByteArray×(List (D_glob_piece))×Int×Unit→Option R:=jR (X n) n T (bodyOf Tryz.f214) (endK ia io) g3 [1,1,1,0,1,0,0,1,1] [m1]
noncomputable def J4 (n:Nat):(List (D_glob_piece))×Unit→Option R:=jR (X n) n T (bodyOf Tryz.f214) (endK ia io) g4 [1,1,1,1] []
noncomputable def f (n:Nat)(p:ByteArray):Option R:=fRun (X n) n T Tryz.f214 ia io (p,())
theorem e0 (n:Nat)(p:ByteArray):f n p =
  bIf ((hide (decide ((p.size:Int)>(200:Int))))) (
    some ([],false,())
    ) (
    J1 n n (p,[],0,())
    ):=(hideF_eq _).trans (by kernel_rfl)
theorem e1 (n m:Nat) (p:ByteArray) (out:List (D_glob_piece)) (i:Int):J1 n (m+1) (p,out,i,()) =
  bIf ((hide (decide (i<(p.size:Int))))) (
    gIf (0≤i∧i<(p.size:Int)) (
      bIf ((hide ((bt p i)==(42:Int)))) (
        gIf ((out.length+1)*16≤70368744177664) (
          J3 n m (p,(out++([(2,(0,()))]:List (D_glob_piece))),i,())
          )
        ) (
        bIf ((hide ((bt p i)==(63:Int)))) (
          gIf ((out.length+1)*16≤70368744177664) (
            J3 n m (p,(out++([(1,(0,()))]:List (D_glob_piece))),i,())
            )
          ) (
          bIf ((hide ((bt p i)==(92:Int)))) (
            bIf ((hide ((IntKind.i64.wrap (i+(1:Int)))==(p.size:Int)))) (
              some ([],false,())
              ) (
              J2 n m (p,out,(IntKind.i64.wrap (i+(1:Int))),())
              )
            ) (
            J2 n m (p,out,i,())
            )
          )
        )
      )
    ) (
    J4 n (out,())
    ):=(hideF_eq _).trans (by kernel_rfl)
theorem e2 (n m1:Nat)(p:ByteArray)(out:List (D_glob_piece))(i:Int):J2 n m1 (p,out,i,()) =
  gIf (0≤i∧i<(p.size:Int)) (
    gIf ((out.length+1)*16≤70368744177664) (
      J3 n m1 (p,(out++([(0,((bt p i),()))]:List (D_glob_piece))),i,())
      )
    ):=(hideF_eq _).trans (by kernel_rfl)
theorem e3 (n m1:Nat)(p:ByteArray)(out:List (D_glob_piece))(i:Int):J3 n m1 (p,out,i,()) =
  J1 n m1 (p,out,(IntKind.i64.wrap (i+(1:Int))),()):=(hideF_eq _).trans (by kernel_rfl)
theorem e4 (n:Nat)(out:List (D_glob_piece)):J4 n (out,()) =
  some (out,true,()):=(hideF_eq _).trans (by kernel_rfl)
theorem phi (n:Nat):∀ e∈(X n).c.Φ,EntryOk Tryz.prog e:=allE_nil
theorem ok (n:Nat):FnOk Tryz.prog 214 ia io (fRun (X n) n T Tryz.f214 ia io):=tree_ok mixed tabIs (phi n) Tryz.func214 (by kernel_rfl) rfl
noncomputable def en (n:Nat):Entry:=mkEntry 214 ia io (fRun (X n) n T Tryz.f214 ia io)
end F_glob_pieces
end Go.Proofs.YtemhlkdingkjnaaGreatDoor
namespace Go.Proofs.YtemhlkdingkjnaaGreatDoor
open Go Go.Va Go.Proofs
namespace F_glob_Sound
abbrev ia:List Ai:=[.dat .str]
abbrev io:List (Nat×Oi):=[(2,.dat .bool)]
abbrev R:Type:=DOut ia io
noncomputable def X (n:Nat):Ctx:=⟨⟨tab,[F_glob_pieces.en n],0,[]⟩,11,bnOf 0 ia⟩
noncomputable def T:CT := .o
noncomputable def f (n:Nat)(p:ByteArray):Option R:=fRun (X n) n T Tryz.f168 ia io (p,())
theorem e0 (n:Nat)(p:ByteArray):f n p =
  bnd (F_glob_pieces.f n p) λu1=>
  some (u1.2.1,()):=(hideF_eq _).trans (by kernel_rfl)
theorem phi (n:Nat):∀ e∈(X n).c.Φ,EntryOk Tryz.prog e:=allE_cons (mkEntry_ok (F_glob_pieces.ok n)) (allE_nil)
theorem ok (n:Nat):FnOk Tryz.prog 168 ia io (fRun (X n) n T Tryz.f168 ia io):=tree_ok mixed tabIs (phi n) Tryz.func168 (by kernel_rfl) rfl
noncomputable def en (n:Nat):Entry:=mkEntry 168 ia io (fRun (X n) n T Tryz.f168 ia io)
end F_glob_Sound
end Go.Proofs.YtemhlkdingkjnaaGreatDoor
namespace Go.Proofs.YtemhlkdingkjnaaGreatDoor
open Go Go.Va Go.Proofs
namespace F_ref07_pieces
abbrev ia:List Ai:=[.dat .str]
abbrev io:List (Nat×Oi):=[(2,.val (.r 0 T_glob_piece)),(3,.dat .bool)]
abbrev R:Type:=DOut ia io
noncomputable def X (n:Nat):Ctx:=⟨⟨tab,[],0,[]⟩,57,bnOf 0 ia⟩
abbrev g1:List Si:=[.dat 0 .str,.val 4 (.r 200400 T_glob_piece),.dat 5 (.int .i64)]
abbrev g2:List Si:=[.dat 0 .str,.val 4 (.r 200400 T_glob_piece),.dat 5 (.int .i64)]
abbrev g3:List Si:=[.val 4 (.r 200400 T_glob_piece)]
noncomputable def T:CT:=(.s .o (.s .o (.s .o (.s (.s .o (.b (.l g1 (.s .o (.s .o (.r g2 .o)))))) (.r g3 .o)))))
noncomputable def J1 (n:Nat)(m:Nat):ByteArray×(List (D_glob_piece))×Int×Unit→Option R:=jL (X n) n T (bodyOf Tryz.f132) (endK ia io) g1 [1,1,1,0,1,0] [] m
noncomputable def J2 (n m1:Nat):ByteArray×(List (D_glob_piece))×Int×Unit→Option R:=jR (X n) n T (bodyOf Tryz.f132) (endK ia io) g2 [1,1,1,0,1,0,0,1,1] [m1]
noncomputable def J3 (n:Nat):(List (D_glob_piece))×Unit→Option R:=jR (X n) n T (bodyOf Tryz.f132) (endK ia io) g3 [1,1,1,1] []
noncomputable def f (n:Nat)(p:ByteArray):Option R:=fRun (X n) n T Tryz.f132 ia io (p,())
theorem e0 (n:Nat)(p:ByteArray):f n p =
  bIf ((hide (decide ((p.size:Int)>(200:Int))))) (
    some (([]:List (D_glob_piece)),false,())
    ) (
    J1 n n (p,([]:List (D_glob_piece)),0,())
    ):=(hideF_eq _).trans (by kernel_rfl)
theorem e1 (n m : Nat) (p:ByteArray) (out:List (D_glob_piece)) (i:Int):J1 n (m+1) (p,out,i,()) =
  bIf ((hide (decide (i<(p.size:Int))))) (
    gIf (0≤i∧i<(p.size:Int)) (
      bIf ((hide ((bt p i)==(42:Int)))) (
        gIf ((out.length+1)*16≤70368744177664) (
          J2 n m (p,(out++([(2,(0,()))]:List (D_glob_piece))),i,())
          )
        ) (
        bIf ((hide ((bt p i)==(63:Int)))) (
          gIf ((out.length+1)*16≤70368744177664) (
            J2 n m (p,(out++([(1,(0,()))]:List (D_glob_piece))),i,())
            )
          ) (
          bIf ((hide ((bt p i)==(92:Int)))) (
            bIf ((hide (i==(IntKind.i64.wrap ((p.size:Int)-(1:Int)))))) (
              some (out,false,())
              ) (
              gIf (0≤(IntKind.i64.wrap (i+(1:Int)))∧(IntKind.i64.wrap (i+(1:Int)))<(p.size:Int)) (
                gIf ((out.length+1)*16≤70368744177664) (
                  J2 n m (p,(out++([(0,((bt p (IntKind.i64.wrap (i+(1:Int)))),()))]:List (D_glob_piece))),(IntKind.i64.wrap (i+(1:Int))),())
                  )
                )
              )
            ) (
            gIf (0≤i∧i<(p.size:Int)) (
              gIf ((out.length+1)*16≤70368744177664) (
                J2 n m (p,(out++([(0,((bt p i),()))]:List (D_glob_piece))),i,())
                )
              )
            )
          )
        )
      )
    ) (
    J3 n (out,())
    ):=(hideF_eq _).trans (by kernel_rfl)
theorem e2 (n m1:Nat)(p:ByteArray)(out:List (D_glob_piece))(i:Int):J2 n m1 (p,out,i,()) =
  J1 n m1 (p,out,(IntKind.i64.wrap (i+(1:Int))),()):=(hideF_eq _).trans (by kernel_rfl)
theorem e3 (n:Nat)(out:List (D_glob_piece)):J3 n (out,()) =
  some (out,true,()):=(hideF_eq _).trans (by kernel_rfl)
theorem phi (n:Nat):∀ e∈(X n).c.Φ,EntryOk Tryz.prog e:=allE_nil
theorem ok (n:Nat):FnOk Tryz.prog 132 ia io (fRun (X n) n T Tryz.f132 ia io):=tree_ok mixed tabIs (phi n) Tryz.func132 (by kernel_rfl) rfl
noncomputable def en (n:Nat):Entry:=mkEntry 132 ia io (fRun (X n) n T Tryz.f132 ia io)
end F_ref07_pieces
end Go.Proofs.YtemhlkdingkjnaaGreatDoor
namespace Go.Proofs.YtemhlkdingkjnaaGreatDoor
open Go Go.Va Go.Proofs
namespace F_ref07_Sound
abbrev ia:List Ai:=[.dat .str]
abbrev io:List (Nat×Oi):=[(2,.dat .bool)]
abbrev R:Type:=DOut ia io
noncomputable def X (n:Nat):Ctx:=⟨⟨tab,[F_ref07_pieces.en n],0,[]⟩,11,bnOf 0 ia⟩
noncomputable def T:CT := .o
noncomputable def f (n:Nat)(p:ByteArray):Option R:=fRun (X n) n T Tryz.f86 ia io (p,())
theorem e0 (n:Nat)(p:ByteArray):f n p =
  bnd (F_ref07_pieces.f n p) λu1=>
  some (u1.2.1,()):=(hideF_eq _).trans (by kernel_rfl)
theorem phi (n:Nat):∀ e∈(X n).c.Φ,EntryOk Tryz.prog e:=allE_cons (mkEntry_ok (F_ref07_pieces.ok n)) (allE_nil)
theorem ok (n:Nat):FnOk Tryz.prog 86 ia io (fRun (X n) n T Tryz.f86 ia io):=tree_ok mixed tabIs (phi n) Tryz.func86 (by kernel_rfl) rfl
noncomputable def en (n:Nat):Entry:=mkEntry 86 ia io (fRun (X n) n T Tryz.f86 ia io)
end F_ref07_Sound
end Go.Proofs.YtemhlkdingkjnaaGreatDoor
namespace Go.Proofs.YtemhlkdingkjnaaGreatDoor
open Go Go.Va Go.Proofs
namespace F_entry_Part
abbrev ia:List Ai:=[.dat T_api_Part]
abbrev io:List (Nat×Oi):=[(2,.dat .bool)]
abbrev R:Type:=DOut ia io
noncomputable def X (n:Nat):Ctx:=⟨⟨tab,[],0,[]⟩,26,bnOf 0 ia⟩
noncomputable def T:CT := .o
noncomputable def f (n:Nat)(p:D_api_Part):Option R:=fRun (X n) n T Tryz.f178 ia io (p,())
theorem e0 (n:Nat) (p:D_api_Part):f n p =
  bIf ((hide (decide (p.1≥(1:Int))))) (
    bIf ((hide (decide (p.1≤(10000:Int))))) (
      bIf ((hide (decide (p.2.1≥(0:Int))))) (
        bIf ((hide (decide (p.2.1≤(1024:Int))))) (
          some ((hide (decide (p.2.2.1>(0:Int)))),())
          ) (
          some (false,())
          )
        ) (
        some (false,())
        )
      ) (
      some (false,())
      )
    ) (
    some (false,())
    ):=(hideF_eq _).trans (by kernel_rfl)
theorem phi (n:Nat):∀ e∈(X n).c.Φ,EntryOk Tryz.prog e:=allE_nil
theorem ok (n:Nat):FnOk Tryz.prog 178 ia io (fRun (X n) n T Tryz.f178 ia io):=tree_ok mixed tabIs (phi n) Tryz.func178 (by kernel_rfl) rfl
noncomputable def en (n:Nat):Entry:=mkEntry 178 ia io (fRun (X n) n T Tryz.f178 ia io)
end F_entry_Part
end Go.Proofs.YtemhlkdingkjnaaGreatDoor
namespace Go.Proofs.YtemhlkdingkjnaaGreatDoor
open Go Go.Va Go.Proofs
namespace F_ref14_Part
abbrev ia:List Ai:=[.dat T_api_Part]
abbrev io:List (Nat×Oi):=[(2,.dat .bool)]
abbrev R:Type:=DOut ia io
noncomputable def X (n:Nat):Ctx:=⟨⟨tab,[],0,[]⟩,26,bnOf 0 ia⟩
noncomputable def T:CT := .o
noncomputable def f (n:Nat)(p:D_api_Part):Option R:=fRun (X n) n T Tryz.f89 ia io (p,())
theorem e0 (n:Nat) (p:D_api_Part):f n p =
  bIf ((hide (decide (p.1≥(1:Int))))) (
    bIf ((hide (decide (p.1≤(10000:Int))))) (
      bIf ((hide (decide (p.2.1≥(0:Int))))) (
        bIf ((hide (decide (p.2.1≤(1024:Int))))) (
          some ((hide (decide (p.2.2.1≥(1:Int)))),())
          ) (
          some (false,())
          )
        ) (
        some (false,())
        )
      ) (
      some (false,())
      )
    ) (
    some (false,())
    ):=(hideF_eq _).trans (by kernel_rfl)
theorem phi (n:Nat):∀ e∈(X n).c.Φ,EntryOk Tryz.prog e:=allE_nil
theorem ok (n:Nat):FnOk Tryz.prog 89 ia io (fRun (X n) n T Tryz.f89 ia io):=tree_ok mixed tabIs (phi n) Tryz.func89 (by kernel_rfl) rfl
noncomputable def en (n:Nat):Entry:=mkEntry 89 ia io (fRun (X n) n T Tryz.f89 ia io)
end F_ref14_Part
end Go.Proofs.YtemhlkdingkjnaaGreatDoor
namespace Go.Proofs.YtemhlkdingkjnaaGreatDoor
open Go Go.Va Go.Proofs
namespace F_entry_Rule
abbrev ia:List Ai:=[.dat T_api_Rule]
abbrev io:List (Nat×Oi):=[(2,.dat .bool)]
abbrev R:Type:=DOut ia io
noncomputable def X (n:Nat):Ctx:=⟨⟨tab,[F_tags_Sound.en n,F_label_Clean.en n],0,[]⟩,37,bnOf 0 ia⟩
noncomputable def T:CT := .o
noncomputable def f (n:Nat)(r:D_api_Rule):Option R:=fRun (X n) n T Tryz.f165 ia io (r,())
theorem e0 (n : Nat) (r:D_api_Rule):f n r =
  bIf ((hide (decide ((r.1.size:Int)≤(200:Int))))) (
    bnd (F_label_Clean.f n r.1) λu1=>
    bIf (u1.1) (
      bnd (F_tags_Sound.f n r.2.1) λu2=>
      bIf (u2.1) (
        bIf ((hide (decide (r.2.2.1≥(0:Int))))) (
          bIf ((hide (decide (r.2.2.1≤(36500:Int))))) (
            bIf ((hide (decide (r.2.2.2.1≥(0:Int))))) (
              some ((hide (decide (r.2.2.2.1≤(36500:Int)))),())
              ) (
              some (false,())
              )
            ) (
            some (false,())
            )
          ) (
          some (false,())
          )
        ) (
        some (false,())
        )
      ) (
      some (false,())
      )
    ) (
    some (false,())
    ):=(hideF_eq _).trans (by kernel_rfl)
theorem phi (n:Nat):∀ e∈(X n).c.Φ,EntryOk Tryz.prog e:=allE_cons (mkEntry_ok (F_tags_Sound.ok n)) (allE_cons (mkEntry_ok (F_label_Clean.ok n)) (allE_nil))
theorem ok (n:Nat):FnOk Tryz.prog 165 ia io (fRun (X n) n T Tryz.f165 ia io):=tree_ok mixed tabIs (phi n) Tryz.func165 (by kernel_rfl) rfl
noncomputable def en (n:Nat):Entry:=mkEntry 165 ia io (fRun (X n) n T Tryz.f165 ia io)
end F_entry_Rule
end Go.Proofs.YtemhlkdingkjnaaGreatDoor
namespace Go.Proofs.YtemhlkdingkjnaaGreatDoor
open Go Go.Va Go.Proofs
namespace F_entry_Rules_1
abbrev ia:List Ai:=[.dat T_api_Rule]
abbrev io:List (Nat×Oi):=[(2,.dat .bool)]
abbrev R:Type:=DOut ia io
noncomputable def X (n:Nat):Ctx:=⟨⟨tab,[F_entry_Rule.en n],0,[]⟩,6,bnOf 0 ia⟩
noncomputable def T:CT := .o
noncomputable def f (n:Nat)(r:D_api_Rule):Option R:=fRun (X n) n T Tryz.f164 ia io (r,())
theorem e0 (n:Nat)(r:D_api_Rule):f n r =
  bnd (F_entry_Rule.f n r) λu1=>
  some ((!u1.1),()):=(hideF_eq _).trans (by kernel_rfl)
theorem phi (n:Nat):∀ e∈(X n).c.Φ,EntryOk Tryz.prog e:=allE_cons (mkEntry_ok (F_entry_Rule.ok n)) (allE_nil)
theorem ok (n:Nat):FnOk Tryz.prog 164 ia io (fRun (X n) n T Tryz.f164 ia io):=tree_ok mixed tabIs (phi n) Tryz.func164 (by kernel_rfl) rfl
noncomputable def en (n:Nat):Entry:=mkEntry 164 ia io (fRun (X n) n T Tryz.f164 ia io)
end F_entry_Rules_1
end Go.Proofs.YtemhlkdingkjnaaGreatDoor
namespace Go.Proofs.YtemhlkdingkjnaaGreatDoor
open Go Go.Va Go.Proofs
namespace F_slices_IndexFunc_Rule
abbrev ia:List Ai:=[.dat (.slice T_api_Rule),.fn (.fn 164) []]
abbrev io:List (Nat×Oi):=[(4,.dat (.int .i64))]
abbrev R:Type:=DOut ia io
noncomputable def X (n:Nat):Ctx:=⟨⟨tab,[F_entry_Rules_1.en n],0,[]⟩,19,bnOf 0 ia⟩
abbrev g1:List Si:=[.dat 0 (.slice T_api_Rule),.clo 1 (.fn 164) [],.dat 7 (.int .i64),.dat 8 (.int .i64)]
abbrev g2:List Si:=[]
noncomputable def T:CT:=(.s .o (.s (.s .o (.b (.l g1 .o))) (.r g2 .o)))
noncomputable def J1 (n:Nat)(m:Nat):(List (D_api_Rule))×Int×Int×Unit→Option R:=jL (X n) n T (bodyOf Tryz.f212) (endK ia io) g1 [1,0,1,0] [] m
noncomputable def J2 (n:Nat):Unit→Option R:=jR (X n) n T (bodyOf Tryz.f212) (endK ia io) g2 [1,1] []
noncomputable def f (n:Nat)(s_:List (D_api_Rule)):Option R:=fRun (X n) n T Tryz.f212 ia io (s_,())
theorem e0 (n:Nat)(s_:List (D_api_Rule)):f n s_ =
  J1 n n (s_,((s_.length:Nat):Int),0,()):=(hideF_eq _).trans (by kernel_rfl)
theorem e1 (n m:Nat) (s_:List (D_api_Rule)) (t7:Int) (t8:Int):J1 n (m+1) (s_,t7,t8,()) =
  bIf ((hide (decide (t8<t7)))) (
    gIf (0≤t8∧t8<((s_.length:Nat):Int)) (
      bnd (F_entry_Rules_1.f n (List.getD s_ t8.toNat (Va.dflt T_api_Rule))) λu1=>
      bIf (u1.1) (
        some (t8,())
        ) (
        J1 n m (s_,t7,(IntKind.i64.wrap (t8+(1:Int))),())
        )
      )
    ) (
    J2 n (())
    ):=(hideF_eq _).trans (by kernel_rfl)
theorem e2 (n:Nat):J2 n (()) =
  some ((-1),()):=(hideF_eq _).trans (by kernel_rfl)
theorem phi (n:Nat):∀ e∈(X n).c.Φ,EntryOk Tryz.prog e:=allE_cons (mkEntry_ok (F_entry_Rules_1.ok n)) (allE_nil)
theorem ok (n:Nat):FnOk Tryz.prog 212 ia io (fRun (X n) n T Tryz.f212 ia io):=tree_ok mixed tabIs (phi n) Tryz.func212 (by kernel_rfl) rfl
noncomputable def en (n:Nat):Entry:=mkEntry 212 ia io (fRun (X n) n T Tryz.f212 ia io)
end F_slices_IndexFunc_Rule
end Go.Proofs.YtemhlkdingkjnaaGreatDoor
namespace Go.Proofs.YtemhlkdingkjnaaGreatDoor
open Go Go.Va Go.Proofs
namespace F_slices_ContainsFunc_Rule
abbrev ia:List Ai:=[.dat (.slice T_api_Rule),.fn (.fn 164) []]
abbrev io:List (Nat×Oi):=[(4,.dat .bool)]
abbrev R:Type:=DOut ia io
noncomputable def X (n:Nat):Ctx:=⟨⟨tab,[F_slices_IndexFunc_Rule.en n],0,[]⟩,9,bnOf 0 ia⟩
noncomputable def T:CT := .o
noncomputable def f (n:Nat)(s_:List (D_api_Rule)):Option R:=fRun (X n) n T Tryz.f163 ia io (s_,())
theorem e0 (n:Nat)(s_:List (D_api_Rule)):f n s_ =
  bnd (F_slices_IndexFunc_Rule.f n s_) λu1=>
  some ((hide (decide (u1.1≥(0:Int)))),()):=(hideF_eq _).trans (by kernel_rfl)
theorem phi (n:Nat):∀ e∈(X n).c.Φ,EntryOk Tryz.prog e:=allE_cons (mkEntry_ok (F_slices_IndexFunc_Rule.ok n)) (allE_nil)
theorem ok (n:Nat):FnOk Tryz.prog 163 ia io (fRun (X n) n T Tryz.f163 ia io):=tree_ok mixed tabIs (phi n) Tryz.func163 (by kernel_rfl) rfl
noncomputable def en (n:Nat):Entry:=mkEntry 163 ia io (fRun (X n) n T Tryz.f163 ia io)
end F_slices_ContainsFunc_Rule
end Go.Proofs.YtemhlkdingkjnaaGreatDoor
namespace Go.Proofs.YtemhlkdingkjnaaGreatDoor
open Go Go.Va Go.Proofs
namespace F_entry_Rules
abbrev ia:List Ai:=[.dat (.slice T_api_Rule)]
abbrev io:List (Nat×Oi):=[(2,.dat .bool)]
abbrev R:Type:=DOut ia io
noncomputable def X (n:Nat):Ctx:=⟨⟨tab,[F_slices_ContainsFunc_Rule.en n],0,[]⟩,11,bnOf 0 ia⟩
noncomputable def T:CT := .o
noncomputable def f (n:Nat)(list:List (D_api_Rule)):Option R:=fRun (X n) n T Tryz.f103 ia io (list,())
theorem e0 (n:Nat)(list:List (D_api_Rule)):f n list =
  bIf ((hide (decide (((list.length:Nat):Int)≤(8:Int))))) (
    bnd (F_slices_ContainsFunc_Rule.f n list) λu1=>
    some ((!u1.1),())
    ) (
    some (false,())
    ):=(hideF_eq _).trans (by kernel_rfl)
theorem phi (n:Nat):∀ e∈(X n).c.Φ,EntryOk Tryz.prog e:=allE_cons (mkEntry_ok (F_slices_ContainsFunc_Rule.ok n)) (allE_nil)
theorem ok (n:Nat):FnOk Tryz.prog 103 ia io (fRun (X n) n T Tryz.f103 ia io):=tree_ok mixed tabIs (phi n) Tryz.func103 (by kernel_rfl) rfl
noncomputable def en (n:Nat):Entry:=mkEntry 103 ia io (fRun (X n) n T Tryz.f103 ia io)
end F_entry_Rules
end Go.Proofs.YtemhlkdingkjnaaGreatDoor
namespace Go.Proofs.YtemhlkdingkjnaaGreatDoor
open Go Go.Va Go.Proofs
namespace F_ref14_Rules
abbrev ia:List Ai:=[.dat (.slice T_api_Rule)]
abbrev io:List (Nat×Oi):=[(2,.dat .bool)]
abbrev R:Type:=DOut ia io
noncomputable def X (n:Nat):Ctx:=⟨⟨tab,[F_ref06_Clean.en n,F_ref08_Sound.en n],0,[]⟩,54,bnOf 0 ia⟩
abbrev g1:List Si:=[.dat 0 (.slice T_api_Rule),.dat 3 (.int .i64)]
abbrev g2:List Si:=[.dat 0 (.slice T_api_Rule),.dat 3 (.int .i64)]
abbrev g3:List Si:=[]
noncomputable def T:CT:=(.s .o (.s .o (.s (.s .o (.b (.l g1 (.s .o (.s .o (.r g2 .o)))))) (.r g3 .o))))
noncomputable def J1 (n:Nat)(m:Nat):(List (D_api_Rule))×Int×Unit→Option R:=jL (X n) n T (bodyOf Tryz.f45) (endK ia io) g1 [1,1,0,1,0] [] m
noncomputable def J2 (n m1:Nat):(List (D_api_Rule))×Int×Unit→Option R:=jR (X n) n T (bodyOf Tryz.f45) (endK ia io) g2 [1,1,0,1,0,0,1,1] [m1]
noncomputable def J3 (n:Nat):Unit→Option R:=jR (X n) n T (bodyOf Tryz.f45) (endK ia io) g3 [1,1,1] []
noncomputable def f (n:Nat)(l:List (D_api_Rule)):Option R:=fRun (X n) n T Tryz.f45 ia io (l,())
theorem e0 (n:Nat)(l:List (D_api_Rule)):f n l =
  bIf ((hide (decide (((l.length:Nat):Int)>(8:Int))))) (
    some (false,())
    ) (
    J1 n n (l,0,())
    ):=(hideF_eq _).trans (by kernel_rfl)
theorem e1 (n m : Nat) (l:List (D_api_Rule)) (i:Int):J1 n (m+1) (l,i,()) =
  bIf ((hide (decide (i<((l.length:Nat):Int))))) (
    gIf (0≤i∧i<((l.length:Nat):Int)) (
      bIf ((hide (decide ((((List.getD l i.toNat (Va.dflt T_api_Rule)).1).size:Int)>(200:Int))))) (
        some (false,())
        ) (
        bnd (F_ref06_Clean.f n ((List.getD l i.toNat (Va.dflt T_api_Rule)).1)) λu1=>
        bIf ((!u1.1)) (
          some (false,())
          ) (
          bnd (F_ref08_Sound.f n (((List.getD l i.toNat (Va.dflt T_api_Rule)).2).1)) λu2=>
          bIf ((!u2.1)) (
            some (false,())
            ) (
            bIf ((hide (decide (((((List.getD l i.toNat (Va.dflt T_api_Rule)).2).2).1)<(0:Int))))) (
              some (false,())
              ) (
              bIf ((hide (decide (((((List.getD l i.toNat (Va.dflt T_api_Rule)).2).2).1)>(36500:Int))))) (
                some (false,())
                ) (
                bIf ((hide (decide ((((((List.getD l i.toNat (Va.dflt T_api_Rule)).2).2).2).1)<(0:Int))))) (
                  some (false,())
                  ) (
                  bIf ((hide (decide ((((((List.getD l i.toNat (Va.dflt T_api_Rule)).2).2).2).1)>(36500:Int))))) (
                    some (false,())
                    ) (
                    J2 n m (l,i,())
                    )
                  )
                )
              )
            )
          )
        )
      )
    ) (
    J3 n (())
    ):=(hideF_eq _).trans (by kernel_rfl)
theorem e2 (n m1:Nat)(l:List (D_api_Rule))(i:Int):J2 n m1 (l,i,()) =
  J1 n m1 (l,(IntKind.i64.wrap (i+(1:Int))),()):=(hideF_eq _).trans (by kernel_rfl)
theorem e3 (n:Nat):J3 n (()) =
  some (true,()):=(hideF_eq _).trans (by kernel_rfl)
theorem phi (n:Nat):∀ e∈(X n).c.Φ,EntryOk Tryz.prog e:=allE_cons (mkEntry_ok (F_ref06_Clean.ok n)) (allE_cons (mkEntry_ok (F_ref08_Sound.ok n)) (allE_nil))
theorem ok (n:Nat):FnOk Tryz.prog 45 ia io (fRun (X n) n T Tryz.f45 ia io):=tree_ok mixed tabIs (phi n) Tryz.func45 (by kernel_rfl) rfl
noncomputable def en (n:Nat):Entry:=mkEntry 45 ia io (fRun (X n) n T Tryz.f45 ia io)
end F_ref14_Rules
end Go.Proofs.YtemhlkdingkjnaaGreatDoor
namespace Go.Proofs.YtemhlkdingkjnaaGreatDoor
open Go Go.Va Go.Proofs
namespace F_entry_Grants_1
abbrev ia:List Ai:=[.dat T_api_Grant]
abbrev io:List (Nat×Oi):=[(2,.dat .bool)]
abbrev R:Type:=DOut ia io
noncomputable def X (n:Nat):Ctx:=⟨⟨tab,[F_glob_Sound.en n],0,[]⟩,19,bnOf 0 ia⟩
noncomputable def T:CT := .o
noncomputable def f (n:Nat)(g:D_api_Grant):Option R:=fRun (X n) n T Tryz.f167 ia io (g,())
theorem e0 (n:Nat)(g:D_api_Grant):f n g =
  bnd (F_glob_Sound.f n g.2.1) λu1=>
  bIf ((!u1.1)) (
    some (true,())
    ) (
    bnd (F_glob_Sound.f n g.2.2.1) λu2=>
    bIf ((!u2.1)) (
      some (true,())
      ) (
      bnd (F_glob_Sound.f n g.2.2.2.1) λu3=>
      some ((!u3.1),())
      )
    ):=(hideF_eq _).trans (by kernel_rfl)
theorem phi (n:Nat):∀ e∈(X n).c.Φ,EntryOk Tryz.prog e:=allE_cons (mkEntry_ok (F_glob_Sound.ok n)) (allE_nil)
theorem ok (n:Nat):FnOk Tryz.prog 167 ia io (fRun (X n) n T Tryz.f167 ia io):=tree_ok mixed tabIs (phi n) Tryz.func167 (by kernel_rfl) rfl
noncomputable def en (n:Nat):Entry:=mkEntry 167 ia io (fRun (X n) n T Tryz.f167 ia io)
end F_entry_Grants_1
end Go.Proofs.YtemhlkdingkjnaaGreatDoor
namespace Go.Proofs.YtemhlkdingkjnaaGreatDoor
open Go Go.Va Go.Proofs
namespace F_slices_IndexFunc_Grant
abbrev ia:List Ai:=[.dat (.slice T_api_Grant),.fn (.fn 167) []]
abbrev io:List (Nat×Oi):=[(4,.dat (.int .i64))]
abbrev R:Type:=DOut ia io
noncomputable def X (n:Nat):Ctx:=⟨⟨tab,[F_entry_Grants_1.en n],0,[]⟩,19,bnOf 0 ia⟩
abbrev g1:List Si:=[.dat 0 (.slice T_api_Grant),.clo 1 (.fn 167) [],.dat 7 (.int .i64),.dat 8 (.int .i64)]
abbrev g2:List Si:=[]
noncomputable def T:CT:=(.s .o (.s (.s .o (.b (.l g1 .o))) (.r g2 .o)))
noncomputable def J1 (n:Nat)(m:Nat):(List (D_api_Grant))×Int×Int×Unit→Option R:=jL (X n) n T (bodyOf Tryz.f213) (endK ia io) g1 [1,0,1,0] [] m
noncomputable def J2 (n:Nat):Unit→Option R:=jR (X n) n T (bodyOf Tryz.f213) (endK ia io) g2 [1,1] []
noncomputable def f (n:Nat)(s_:List (D_api_Grant)):Option R:=fRun (X n) n T Tryz.f213 ia io (s_,())
theorem e0 (n:Nat)(s_:List (D_api_Grant)):f n s_ =
  J1 n n (s_,((s_.length:Nat):Int),0,()):=(hideF_eq _).trans (by kernel_rfl)
theorem e1 (n m:Nat) (s_:List (D_api_Grant)) (t7:Int) (t8:Int):J1 n (m+1) (s_,t7,t8,()) =
  bIf ((hide (decide (t8<t7)))) (
    gIf (0≤t8∧t8<((s_.length:Nat):Int)) (
      bnd (F_entry_Grants_1.f n (List.getD s_ t8.toNat (Va.dflt T_api_Grant))) λu1=>
      bIf (u1.1) (
        some (t8,())
        ) (
        J1 n m (s_,t7,(IntKind.i64.wrap (t8+(1:Int))),())
        )
      )
    ) (
    J2 n (())
    ):=(hideF_eq _).trans (by kernel_rfl)
theorem e2 (n:Nat):J2 n (()) =
  some ((-1),()):=(hideF_eq _).trans (by kernel_rfl)
theorem phi (n:Nat):∀ e∈(X n).c.Φ,EntryOk Tryz.prog e:=allE_cons (mkEntry_ok (F_entry_Grants_1.ok n)) (allE_nil)
theorem ok (n:Nat):FnOk Tryz.prog 213 ia io (fRun (X n) n T Tryz.f213 ia io):=tree_ok mixed tabIs (phi n) Tryz.func213 (by kernel_rfl) rfl
noncomputable def en (n:Nat):Entry:=mkEntry 213 ia io (fRun (X n) n T Tryz.f213 ia io)
end F_slices_IndexFunc_Grant
end Go.Proofs.YtemhlkdingkjnaaGreatDoor
namespace Go.Proofs.YtemhlkdingkjnaaGreatDoor
open Go Go.Va Go.Proofs
namespace F_slices_ContainsFunc_Grant
abbrev ia:List Ai:=[.dat (.slice T_api_Grant),.fn (.fn 167) []]
abbrev io:List (Nat×Oi):=[(4,.dat .bool)]
abbrev R:Type:=DOut ia io
noncomputable def X (n:Nat):Ctx:=⟨⟨tab,[F_slices_IndexFunc_Grant.en n],0,[]⟩,9,bnOf 0 ia⟩
noncomputable def T:CT := .o
noncomputable def f (n:Nat)(s_:List (D_api_Grant)):Option R:=fRun (X n) n T Tryz.f166 ia io (s_,())
theorem e0 (n:Nat)(s_:List (D_api_Grant)):f n s_ =
  bnd (F_slices_IndexFunc_Grant.f n s_) λu1=>
  some ((hide (decide (u1.1≥(0:Int)))),()):=(hideF_eq _).trans (by kernel_rfl)
theorem phi (n:Nat):∀ e∈(X n).c.Φ,EntryOk Tryz.prog e:=allE_cons (mkEntry_ok (F_slices_IndexFunc_Grant.ok n)) (allE_nil)
theorem ok (n:Nat):FnOk Tryz.prog 166 ia io (fRun (X n) n T Tryz.f166 ia io):=tree_ok mixed tabIs (phi n) Tryz.func166 (by kernel_rfl) rfl
noncomputable def en (n:Nat):Entry:=mkEntry 166 ia io (fRun (X n) n T Tryz.f166 ia io)
end F_slices_ContainsFunc_Grant
end Go.Proofs.YtemhlkdingkjnaaGreatDoor
namespace Go.Proofs.YtemhlkdingkjnaaGreatDoor
open Go Go.Va Go.Proofs
namespace F_entry_Grants
abbrev ia:List Ai:=[.dat (.slice T_api_Grant)]
abbrev io:List (Nat×Oi):=[(2,.dat .bool)]
abbrev R:Type:=DOut ia io
noncomputable def X (n:Nat):Ctx:=⟨⟨tab,[F_slices_ContainsFunc_Grant.en n],0,[]⟩,11,bnOf 0 ia⟩
noncomputable def T:CT := .o
noncomputable def f (n:Nat)(list:List (D_api_Grant)):Option R:=fRun (X n) n T Tryz.f104 ia io (list,())
theorem e0 (n:Nat)(list:List (D_api_Grant)):f n list =
  bIf ((hide (decide (((list.length:Nat):Int)≤(8:Int))))) (
    bnd (F_slices_ContainsFunc_Grant.f n list) λu1=>
    some ((!u1.1),())
    ) (
    some (false,())
    ):=(hideF_eq _).trans (by kernel_rfl)
theorem phi (n:Nat):∀ e∈(X n).c.Φ,EntryOk Tryz.prog e:=allE_cons (mkEntry_ok (F_slices_ContainsFunc_Grant.ok n)) (allE_nil)
theorem ok (n:Nat):FnOk Tryz.prog 104 ia io (fRun (X n) n T Tryz.f104 ia io):=tree_ok mixed tabIs (phi n) Tryz.func104 (by kernel_rfl) rfl
noncomputable def en (n:Nat):Entry:=mkEntry 104 ia io (fRun (X n) n T Tryz.f104 ia io)
end F_entry_Grants
end Go.Proofs.YtemhlkdingkjnaaGreatDoor
namespace Go.Proofs.YtemhlkdingkjnaaGreatDoor
open Go Go.Va Go.Proofs
namespace F_ref14_Grants
abbrev ia:List Ai:=[.dat (.slice T_api_Grant)]
abbrev io:List (Nat×Oi):=[(2,.dat .bool)]
abbrev R:Type:=DOut ia io
noncomputable def X (n:Nat):Ctx:=⟨⟨tab,[F_ref07_Sound.en n],0,[]⟩,38,bnOf 0 ia⟩
abbrev g1:List Si:=[.dat 0 (.slice T_api_Grant),.dat 3 (.int .i64)]
abbrev g2:List Si:=[.dat 0 (.slice T_api_Grant),.dat 3 (.int .i64)]
abbrev g3:List Si:=[]
noncomputable def T:CT:=(.s .o (.s .o (.s (.s .o (.b (.l g1 (.s .o (.s .o (.r g2 .o)))))) (.r g3 .o))))
noncomputable def J1 (n:Nat)(m:Nat):(List (D_api_Grant))×Int×Unit→Option R:=jL (X n) n T (bodyOf Tryz.f46) (endK ia io) g1 [1,1,0,1,0] [] m
noncomputable def J2 (n m1:Nat):(List (D_api_Grant))×Int×Unit→Option R:=jR (X n) n T (bodyOf Tryz.f46) (endK ia io) g2 [1,1,0,1,0,0,1,1] [m1]
noncomputable def J3 (n:Nat):Unit→Option R:=jR (X n) n T (bodyOf Tryz.f46) (endK ia io) g3 [1,1,1] []
noncomputable def f (n:Nat)(l:List (D_api_Grant)):Option R:=fRun (X n) n T Tryz.f46 ia io (l,())
theorem e0 (n:Nat)(l:List (D_api_Grant)):f n l =
  bIf ((hide (decide (((l.length:Nat):Int)>(8:Int))))) (
    some (false,())
    ) (
    J1 n n (l,0,())
    ):=(hideF_eq _).trans (by kernel_rfl)
theorem e1 (n m : Nat) (l:List (D_api_Grant)) (i:Int):J1 n (m+1) (l,i,()) =
  bIf ((hide (decide (i<((l.length:Nat):Int))))) (
    gIf (0≤i∧i<((l.length:Nat):Int)) (
      bnd (F_ref07_Sound.f n (((List.getD l i.toNat (Va.dflt T_api_Grant)).2).1)) λu1=>
      bIf ((!u1.1)) (
        some (false,())
        ) (
        gIf (0≤i∧i<((l.length:Nat):Int)) (
          bnd (F_ref07_Sound.f n ((((List.getD l i.toNat (Va.dflt T_api_Grant)).2).2).1)) λu2=>
          bIf ((!u2.1)) (
            some (false,())
            ) (
            gIf (0≤i∧i<((l.length:Nat):Int)) (
              bnd (F_ref07_Sound.f n (((((List.getD l i.toNat (Va.dflt T_api_Grant)).2).2).2).1)) λu3=>
              bIf ((!u3.1)) (
                some (false,())
                ) (
                J2 n m (l,i,())
                )
              )
            )
          )
        )
      )
    ) (
    J3 n (())
    ):=(hideF_eq _).trans (by kernel_rfl)
theorem e2 (n m1:Nat)(l:List (D_api_Grant))(i:Int):J2 n m1 (l,i,()) =
  J1 n m1 (l,(IntKind.i64.wrap (i+(1:Int))),()):=(hideF_eq _).trans (by kernel_rfl)
theorem e3 (n:Nat):J3 n (()) =
  some (true,()):=(hideF_eq _).trans (by kernel_rfl)
theorem phi (n:Nat):∀ e∈(X n).c.Φ,EntryOk Tryz.prog e:=allE_cons (mkEntry_ok (F_ref07_Sound.ok n)) (allE_nil)
theorem ok (n:Nat):FnOk Tryz.prog 46 ia io (fRun (X n) n T Tryz.f46 ia io):=tree_ok mixed tabIs (phi n) Tryz.func46 (by kernel_rfl) rfl
noncomputable def en (n:Nat):Entry:=mkEntry 46 ia io (fRun (X n) n T Tryz.f46 ia io)
end F_ref14_Grants
end Go.Proofs.YtemhlkdingkjnaaGreatDoor
namespace Go.Proofs.YtemhlkdingkjnaaGreatDoor
open Go Go.Va Go.Proofs
namespace F_label_address
abbrev ia:List Ai:=[.dat .str]
abbrev io:List (Nat×Oi):=[(2,.dat .bool)]
abbrev R:Type:=DOut ia io
noncomputable def X (n:Nat):Ctx:=⟨⟨tab,[F_strings_Split.en,F_strings_Trim.en],0,[]⟩,30,bnOf 0 ia⟩
abbrev g1:List Si:=[.val 11 (.r 201100 .str),.dat 12 (.int .i64),.dat 13 (.int .i64)]
abbrev g2:List Si:=[]
noncomputable def T:CT:=(.s .o (.s .o (.s .o (.s (.s .o (.b (.l g1 .o))) (.r g2 .o)))))
noncomputable def J1 (n:Nat)(m:Nat):(List (ByteArray))×Int×Int×Unit→Option R:=jL (X n) n T (bodyOf Tryz.f161) (endK ia io) g1 [1,1,1,0,1,0] [] m
noncomputable def J2 (n:Nat):Unit→Option R:=jR (X n) n T (bodyOf Tryz.f161) (endK ia io) g2 [1,1,1,1] []
noncomputable def f (n:Nat)(s_:ByteArray):Option R:=fRun (X n) n T Tryz.f161 ia io (s_,())
theorem e0 (n:Nat)(s_:ByteArray):f n s_ =
  bnd (F_strings_Split.f s_ (⟨#[46]⟩:ByteArray)) λu1=>
  bIf ((hide (((u1.1.length:Nat):Int) != (4:Int)))) (
    some (false,())
    ) (
    J1 n n (u1.1,((u1.1.length:Nat):Int),0,())
    ):=(hideF_eq _).trans (by kernel_rfl)
theorem e1 (n m:Nat) (t11:List (ByteArray)) (t12:Int) (t13:Int):J1 n (m+1) (t11,t12,t13,()) =
  bIf ((hide (decide (t13<t12)))) (
    gIf (0≤t13∧t13<((t11.length:Nat):Int)) (
      bIf ((hide (eqS (List.getD t11 (0+t13.toNat) (⟨#[]⟩:ByteArray)) (⟨#[]⟩:ByteArray)))) (
        some (false,())
        ) (
        bIf ((hide (decide (((List.getD t11 (0+t13.toNat) (⟨#[]⟩:ByteArray)).size:Int)>(3:Int))))) (
          some (false,())
          ) (
          bnd (F_strings_Trim.f (List.getD t11 (0+t13.toNat) (⟨#[]⟩:ByteArray)) (⟨#[48,49,50,51,52,53,54,55,56,57]⟩:ByteArray)) λu1=>
          bIf ((hide (!eqS u1.1 (⟨#[]⟩:ByteArray)))) (
            some (false,())
            ) (
            J1 n m (t11,t12,(IntKind.i64.wrap (t13+(1:Int))),())
            )
          )
        )
      )
    ) (
    J2 n (())
    ):=(hideF_eq _).trans (by kernel_rfl)
theorem e2 (n:Nat):J2 n (()) =
  some (true,()):=(hideF_eq _).trans (by kernel_rfl)
theorem phi (n:Nat):∀ e∈(X n).c.Φ,EntryOk Tryz.prog e:=allE_cons (mkEntry_ok (F_strings_Split.ok)) (allE_cons (mkEntry_ok (F_strings_Trim.ok)) (allE_nil))
theorem ok (n:Nat):FnOk Tryz.prog 161 ia io (fRun (X n) n T Tryz.f161 ia io):=tree_ok mixed tabIs (phi n) Tryz.func161 (by kernel_rfl) rfl
noncomputable def en (n:Nat):Entry:=mkEntry 161 ia io (fRun (X n) n T Tryz.f161 ia io)
end F_label_address
end Go.Proofs.YtemhlkdingkjnaaGreatDoor
namespace Go.Proofs.YtemhlkdingkjnaaGreatDoor
open Go Go.Va Go.Proofs
namespace F_label_among
abbrev ia:List Ai:=[.dat .str,.dat (.int .u8)]
abbrev io:List (Nat×Oi):=[(4,.dat .bool)]
abbrev R:Type:=DOut ia io
noncomputable def X (n:Nat):Ctx:=⟨⟨tab,[F_strings_IndexByte.en],0,[]⟩,9,bnOf 0 ia⟩
noncomputable def T:CT := .o
noncomputable def f (n:Nat)(some_:ByteArray)(b:Int):Option R:=fRun (X n) n T Tryz.f162 ia io (some_,b,())
theorem e0 (n:Nat)(some_:ByteArray)(b:Int):f n some_ b =
  bnd (F_strings_IndexByte.f some_ b) λu1=>
  some ((hide (decide (u1.1≥(0:Int)))),()):=(hideF_eq _).trans (by kernel_rfl)
theorem phi (n:Nat):∀ e∈(X n).c.Φ,EntryOk Tryz.prog e:=allE_cons (mkEntry_ok (F_strings_IndexByte.ok)) (allE_nil)
theorem ok (n:Nat):FnOk Tryz.prog 162 ia io (fRun (X n) n T Tryz.f162 ia io):=tree_ok mixed tabIs (phi n) Tryz.func162 (by kernel_rfl) rfl
noncomputable def en (n:Nat):Entry:=mkEntry 162 ia io (fRun (X n) n T Tryz.f162 ia io)
end F_label_among
end Go.Proofs.YtemhlkdingkjnaaGreatDoor
namespace Go.Proofs.YtemhlkdingkjnaaGreatDoor
open Go Go.Va Go.Proofs
namespace F_label_Bucket
abbrev ia:List Ai:=[.dat .str]
abbrev io:List (Nat×Oi):=[(2,.dat .bool)]
abbrev R:Type:=DOut ia io
noncomputable def X (n:Nat):Ctx:=⟨⟨tab,[F_label_address.en n,F_label_among.en n],0,[]⟩,68,bnOf 0 ia⟩
abbrev g1:List Si:=[.dat 0 .str]
abbrev g2:List Si:=[.dat 0 .str,.dat 18 (.int .i64),.dat 19 (.int .i64)]
abbrev g3:List Si:=[.dat 0 .str,.dat 3 (.int .i64),.dat 18 (.int .i64),.dat 19 (.int .i64)]
abbrev g4:List Si:=[]
noncomputable def T:CT:=(.s .o (.s .o (.r g1 (.s (.s .o (.b (.l g2 (.s .o (.s .o (.s (.b (.s .o (.s .o (.s .o (.r g3 .o))))) .o)))))) (.r g4 .o)))))
noncomputable def J1 (n:Nat):ByteArray×Unit→Option R:=jR (X n) n T (bodyOf Tryz.f101) (endK ia io) g1 [1,1] []
noncomputable def J2 (n:Nat)(m:Nat):ByteArray×Int×Int×Unit→Option R:=jL (X n) n T (bodyOf Tryz.f101) (endK ia io) g2 [1,1,0,1,0] [] m
noncomputable def J3 (n m2:Nat):ByteArray×Int×Int×Int×Unit→Option R:=jR (X n) n T (bodyOf Tryz.f101) (endK ia io) g3 [1,1,0,1,0,0,1,1,0,0,1,1,1] [m2]
noncomputable def J4 (n:Nat):Unit→Option R:=jR (X n) n T (bodyOf Tryz.f101) (endK ia io) g4 [1,1,1] []
noncomputable def f (n:Nat)(s_:ByteArray):Option R:=fRun (X n) n T Tryz.f101 ia io (s_,())
theorem e0 (n:Nat) (s_:ByteArray):f n s_ =
  bIf ((hide (decide ((s_.size:Int)<(3:Int))))) (
    some (false,())
    ) (
    bIf ((hide (decide ((s_.size:Int)>(63:Int))))) (
      some (false,())
      ) (
      bnd (F_label_address.f n s_) λu1=>
      bIf (u1.1) (
        some (false,())
        ) (
        J1 n (s_,())
        )
      )
    ):=(hideF_eq _).trans (by kernel_rfl)
theorem e1 (n:Nat)(s_:ByteArray):J1 n (s_,()) =
  J2 n n (s_,(s_.size:Int),0,()):=(hideF_eq _).trans (by kernel_rfl)
theorem e2 (n m : Nat) (s_:ByteArray) (t18:Int) (t19:Int):J2 n (m+1) (s_,t18,t19,()) =
  bIf ((hide (decide (t19<t18)))) (
    gIf (0≤t19∧t19<(s_.size:Int)) (
      bnd (F_label_among.f n (⟨#[97,98,99,100,101,102,103,104,105,106,107,108,109,110,111,112,113,114,115,116,117,118,119,120,121,122,48,49,50,51,52,53,54,55,56,57]⟩:ByteArray) (bt s_ t19)) λu1=>
      bIf (u1.1) (
        J2 n m (s_,t18,(IntKind.i64.wrap (t19+(1:Int))),())
        ) (
        gIf (0≤t19∧t19<(s_.size:Int)) (
          bIf ((hide ((bt s_ t19) != (45:Int)))) (
            gIf (0≤t19∧t19<(s_.size:Int)) (
              bIf ((hide ((bt s_ t19) != (46:Int)))) (
                some (false,())
                ) (
                bIf ((hide (t19==(0:Int)))) (
                  some (false,())
                  ) (
                  bIf ((hide (t19==(IntKind.i64.wrap ((s_.size:Int)-(1:Int)))))) (
                    some (false,())
                    ) (
                    J3 n m (s_,t19,t18,t19,())
                    )
                  )
                )
              )
            ) (
            bIf ((hide (t19==(0:Int)))) (
              some (false,())
              ) (
              bIf ((hide (t19==(IntKind.i64.wrap ((s_.size:Int)-(1:Int)))))) (
                some (false,())
                ) (
                J3 n m (s_,t19,t18,t19,())
                )
              )
            )
          )
        )
      )
    ) (
    J4 n (())
    ):=(hideF_eq _).trans (by kernel_rfl)
theorem e3 (n m2:Nat) (s_:ByteArray) (i:Int) (t18:Int) (t19:Int):J3 n m2 (s_,i,t18,t19,()) =
  gIf (0≤(IntKind.i64.wrap (i+(1:Int)))∧(IntKind.i64.wrap (i+(1:Int)))<(s_.size:Int)) (
    bIf ((hide ((bt s_ (IntKind.i64.wrap (i+(1:Int))))==(46:Int)))) (
      gIf (0≤i∧i<(s_.size:Int)) (
        bIf ((hide ((bt s_ i)==(46:Int)))) (
          some (false,())
          ) (
          bIf ((hide ((bt s_ (IntKind.i64.wrap (i+(1:Int))))==(46:Int)))) (
            some (false,())
            ) (
            J2 n m2 (s_,t18,(IntKind.i64.wrap (t19+(1:Int))),())
            )
          )
        )
      ) (
      bIf ((hide ((bt s_ (IntKind.i64.wrap (i+(1:Int))))==(45:Int)))) (
        gIf (0≤i∧i<(s_.size:Int)) (
          bIf ((hide ((bt s_ i)==(46:Int)))) (
            some (false,())
            ) (
            bIf ((hide ((bt s_ (IntKind.i64.wrap (i+(1:Int))))==(46:Int)))) (
              some (false,())
              ) (
              J2 n m2 (s_,t18,(IntKind.i64.wrap (t19+(1:Int))),())
              )
            )
          )
        ) (
        J2 n m2 (s_,t18,(IntKind.i64.wrap (t19+(1:Int))),())
        )
      )
    ):=(hideF_eq _).trans (by kernel_rfl)
theorem e4 (n:Nat):J4 n (()) =
  some (true,()):=(hideF_eq _).trans (by kernel_rfl)
theorem phi (n:Nat):∀ e∈(X n).c.Φ,EntryOk Tryz.prog e:=allE_cons (mkEntry_ok (F_label_address.ok n)) (allE_cons (mkEntry_ok (F_label_among.ok n)) (allE_nil))
theorem ok (n:Nat):FnOk Tryz.prog 101 ia io (fRun (X n) n T Tryz.f101 ia io):=tree_ok mixed tabIs (phi n) Tryz.func101 (by kernel_rfl) rfl
noncomputable def en (n:Nat):Entry:=mkEntry 101 ia io (fRun (X n) n T Tryz.f101 ia io)
end F_label_Bucket
end Go.Proofs.YtemhlkdingkjnaaGreatDoor
namespace Go.Proofs.YtemhlkdingkjnaaGreatDoor
open Go Go.Va Go.Proofs
namespace F_ref06_four
abbrev ia:List Ai:=[.dat .str]
abbrev io:List (Nat×Oi):=[(2,.dat .bool)]
abbrev R:Type:=DOut ia io
noncomputable def X (n:Nat):Ctx:=⟨⟨tab,[],0,[]⟩,42,bnOf 0 ia⟩
abbrev g1:List Si:=[.dat 0 .str,.dat 3 (.int .i64),.dat 4 (.int .i64),.dat 5 (.int .i64)]
abbrev g2:List Si:=[.dat 0 .str,.dat 3 (.int .i64),.dat 4 (.int .i64),.dat 5 (.int .i64)]
abbrev g3:List Si:=[.dat 3 (.int .i64),.dat 4 (.int .i64)]
noncomputable def T:CT:=(.s .o (.s .o (.s (.s .o (.b (.l g1 (.s .o (.s .o (.r g2 .o)))))) (.r g3 .o))))
noncomputable def J1 (n:Nat)(m:Nat):ByteArray×Int×Int×Int×Unit→Option R:=jL (X n) n T (bodyOf Tryz.f83) (endK ia io) g1 [1,1,0,1,0] [] m
noncomputable def J2 (n m1:Nat):ByteArray×Int×Int×Int×Unit→Option R:=jR (X n) n T (bodyOf Tryz.f83) (endK ia io) g2 [1,1,0,1,0,0,1,1] [m1]
noncomputable def J3 (n:Nat):Int×Int×Unit→Option R:=jR (X n) n T (bodyOf Tryz.f83) (endK ia io) g3 [1,1,1] []
noncomputable def f (n:Nat)(s_:ByteArray):Option R:=fRun (X n) n T Tryz.f83 ia io (s_,())
theorem e0 (n:Nat)(s_:ByteArray):f n s_ =
  J1 n n (s_,0,0,0,()):=(hideF_eq _).trans (by kernel_rfl)
theorem e1 (n m : Nat) (s_:ByteArray) (points:Int) (digits:Int) (i:Int):J1 n (m+1) (s_,points,digits,i,()) =
  bIf ((hide (decide (i<(s_.size:Int))))) (
    gIf (0≤i∧i<(s_.size:Int)) (
      bIf ((hide ((bt s_ i)==(46:Int)))) (
        bIf ((hide (digits==(0:Int)))) (
          some (false,())
          ) (
          J2 n m (s_,(IntKind.i64.wrap (points+(1:Int))),0,i,())
          )
        ) (
        gIf (0≤i∧i<(s_.size:Int)) (
          bIf ((hide (decide ((bt s_ i)<(48:Int))))) (
            some (false,())
            ) (
            gIf (0≤i∧i<(s_.size:Int)) (
              bIf ((hide (decide ((bt s_ i)>(57:Int))))) (
                some (false,())
                ) (
                bIf ((hide (decide ((IntKind.i64.wrap (digits+(1:Int)))>(3:Int))))) (
                  some (false,())
                  ) (
                  J2 n m (s_,points,(IntKind.i64.wrap (digits+(1:Int))),i,())
                  )
                )
              )
            )
          )
        )
      )
    ) (
    J3 n (points,digits,())
    ):=(hideF_eq _).trans (by kernel_rfl)
theorem e2 (n m1:Nat)(s_:ByteArray)(points:Int)(digits:Int)(i:Int):J2 n m1 (s_,points,digits,i,()) =
  J1 n m1 (s_,points,digits,(IntKind.i64.wrap (i+(1:Int))),()):=(hideF_eq _).trans (by kernel_rfl)
theorem e3 (n:Nat)(points:Int)(digits:Int):J3 n (points,digits,()) =
  bIf ((hide (points==(3:Int)))) (
    some ((hide (decide (digits>(0:Int)))),())
    ) (
    some (false,())
    ):=(hideF_eq _).trans (by kernel_rfl)
theorem phi (n:Nat):∀ e∈(X n).c.Φ,EntryOk Tryz.prog e:=allE_nil
theorem ok (n:Nat):FnOk Tryz.prog 83 ia io (fRun (X n) n T Tryz.f83 ia io):=tree_ok mixed tabIs (phi n) Tryz.func83 (by kernel_rfl) rfl
noncomputable def en (n:Nat):Entry:=mkEntry 83 ia io (fRun (X n) n T Tryz.f83 ia io)
end F_ref06_four
end Go.Proofs.YtemhlkdingkjnaaGreatDoor
namespace Go.Proofs.YtemhlkdingkjnaaGreatDoor
open Go Go.Va Go.Proofs
namespace F_ref06_low
abbrev ia:List Ai:=[.dat (.int .u8)]
abbrev io:List (Nat×Oi):=[(2,.dat .bool)]
abbrev R:Type:=DOut ia io
noncomputable def X (n:Nat):Ctx:=⟨⟨tab,[],0,[]⟩,17,bnOf 0 ia⟩
noncomputable def T:CT := .o
noncomputable def f (n:Nat)(b:Int):Option R:=fRun (X n) n T Tryz.f82 ia io (b,())
theorem e0 (n:Nat) (b:Int):f n b =
  bIf ((hide (decide (b≥(97:Int))))) (
    bIf ((hide (decide (b≤(122:Int))))) (
      some (true,())
      ) (
      bIf ((hide (decide (b≥(48:Int))))) (
        some ((hide (decide (b≤(57:Int)))),())
        ) (
        some (false,())
        )
      )
    ) (
    bIf ((hide (decide (b≥(48:Int))))) (
      some ((hide (decide (b≤(57:Int)))),())
      ) (
      some (false,())
      )
    ):=(hideF_eq _).trans (by kernel_rfl)
theorem phi (n:Nat):∀ e∈(X n).c.Φ,EntryOk Tryz.prog e:=allE_nil
theorem ok (n:Nat):FnOk Tryz.prog 82 ia io (fRun (X n) n T Tryz.f82 ia io):=tree_ok mixed tabIs (phi n) Tryz.func82 (by kernel_rfl) rfl
noncomputable def en (n:Nat):Entry:=mkEntry 82 ia io (fRun (X n) n T Tryz.f82 ia io)
end F_ref06_low
end Go.Proofs.YtemhlkdingkjnaaGreatDoor
namespace Go.Proofs.YtemhlkdingkjnaaGreatDoor
open Go Go.Va Go.Proofs
namespace F_ref06_Bucket
abbrev ia:List Ai:=[.dat .str]
abbrev io:List (Nat×Oi):=[(2,.dat .bool)]
abbrev R:Type:=DOut ia io
noncomputable def X (n:Nat):Ctx:=⟨⟨tab,[F_ref06_low.en n,F_ref06_four.en n],0,[]⟩,85,bnOf 0 ia⟩
abbrev g1:List Si:=[.dat 0 .str]
abbrev g2:List Si:=[.dat 0 .str,.dat 3 (.int .i64)]
abbrev g3:List Si:=[.dat 0 .str,.dat 3 (.int .i64)]
abbrev g4:List Si:=[.dat 0 .str,.dat 3 (.int .i64)]
abbrev g5:List Si:=[]
noncomputable def T:CT:=(.s .o (.s .o (.r g1 (.s (.s .o (.b (.l g2 (.s .o (.s (.b (.s .o (.r g3 .o))) (.r g4 .o)))))) (.r g5 .o)))))
noncomputable def J1 (n:Nat):ByteArray×Unit→Option R:=jR (X n) n T (bodyOf Tryz.f43) (endK ia io) g1 [1,1] []
noncomputable def J2 (n:Nat)(m:Nat):ByteArray×Int×Unit→Option R:=jL (X n) n T (bodyOf Tryz.f43) (endK ia io) g2 [1,1,0,1,0] [] m
noncomputable def J3 (n m2:Nat):ByteArray×Int×Unit→Option R:=jR (X n) n T (bodyOf Tryz.f43) (endK ia io) g3 [1,1,0,1,0,0,1,0,0,1] [m2]
noncomputable def J4 (n m2:Nat):ByteArray×Int×Unit→Option R:=jR (X n) n T (bodyOf Tryz.f43) (endK ia io) g4 [1,1,0,1,0,0,1,1] [m2]
noncomputable def J5 (n:Nat):Unit→Option R:=jR (X n) n T (bodyOf Tryz.f43) (endK ia io) g5 [1,1,1] []
noncomputable def f (n:Nat)(s_:ByteArray):Option R:=fRun (X n) n T Tryz.f43 ia io (s_,())
theorem e0 (n : Nat) (s_:ByteArray):f n s_ =
  bIf ((hide (decide ((s_.size:Int)<(3:Int))))) (
    some (false,())
    ) (
    bIf ((hide (decide ((s_.size:Int)>(63:Int))))) (
      some (false,())
      ) (
      gIf (0≤(0:Int)∧(0:Int)<(s_.size:Int)) (
        bnd (F_ref06_low.f n (bt s_ 0)) λu1=>
        bIf ((!u1.1)) (
          some (false,())
          ) (
          gIf (0≤(IntKind.i64.wrap ((s_.size:Int)-(1:Int)))∧(IntKind.i64.wrap ((s_.size:Int)-(1:Int)))<(s_.size:Int)) (
            bnd (F_ref06_low.f n (bt s_ (IntKind.i64.wrap ((s_.size:Int)-(1:Int))))) λu2=>
            bIf ((!u2.1)) (
              some (false,())
              ) (
              bnd (F_ref06_four.f n s_) λu3=>
              bIf (u3.1) (
                some (false,())
                ) (
                J1 n (s_,())
                )
              )
            )
          )
        )
      )
    ):=(hideF_eq _).trans (by kernel_rfl)
theorem e1 (n:Nat)(s_:ByteArray):J1 n (s_,()) =
  J2 n n (s_,0,()):=(hideF_eq _).trans (by kernel_rfl)
theorem e2 (n m : Nat) (s_:ByteArray) (i:Int):J2 n (m+1) (s_,i,()) =
  bIf ((hide (decide (i<(s_.size:Int))))) (
    gIf (0≤i∧i<(s_.size:Int)) (
      bnd (F_ref06_low.f n (bt s_ i)) λu1=>
      bIf ((!u1.1)) (
        gIf (0≤i∧i<(s_.size:Int)) (
          bIf ((hide ((bt s_ i) != (45:Int)))) (
            gIf (0≤i∧i<(s_.size:Int)) (
              bIf ((hide ((bt s_ i) != (46:Int)))) (
                some (false,())
                ) (
                J3 n m (s_,i,())
                )
              )
            ) (
            J3 n m (s_,i,())
            )
          )
        ) (
        J3 n m (s_,i,())
        )
      )
    ) (
    J5 n (())
    ):=(hideF_eq _).trans (by kernel_rfl)
theorem e3 (n m2:Nat) (s_:ByteArray) (i:Int):J3 n m2 (s_,i,()) =
  bIf ((hide (decide (i>(0:Int))))) (
    gIf (0≤i∧i<(s_.size:Int)) (
      bnd (F_ref06_low.f n (bt s_ i)) λu1=>
      bIf ((!u1.1)) (
        gIf (0≤(IntKind.i64.wrap (i-(1:Int)))∧(IntKind.i64.wrap (i-(1:Int)))<(s_.size:Int)) (
          bnd (F_ref06_low.f n (bt s_ (IntKind.i64.wrap (i-(1:Int))))) λu2=>
          bIf ((!u2.1)) (
            gIf (0≤i∧i<(s_.size:Int)) (
              bIf ((hide ((bt s_ i)==(45:Int)))) (
                gIf (0≤(IntKind.i64.wrap (i-(1:Int)))∧(IntKind.i64.wrap (i-(1:Int)))<(s_.size:Int)) (
                  bIf ((!(hide ((bt s_ (IntKind.i64.wrap (i-(1:Int))))==(45:Int))))) (
                    some (false,())
                    ) (
                    J4 n m2 (s_,i,())
                    )
                  )
                ) (
                some (false,())
                )
              )
            ) (
            J4 n m2 (s_,i,())
            )
          )
        ) (
        J4 n m2 (s_,i,())
        )
      )
    ) (
    J4 n m2 (s_,i,())
    ):=(hideF_eq _).trans (by kernel_rfl)
theorem e4 (n m2:Nat)(s_:ByteArray)(i:Int):J4 n m2 (s_,i,()) =
  J2 n m2 (s_,(IntKind.i64.wrap (i+(1:Int))),()):=(hideF_eq _).trans (by kernel_rfl)
theorem e5 (n:Nat):J5 n (()) =
  some (true,()):=(hideF_eq _).trans (by kernel_rfl)
theorem phi (n:Nat):∀ e∈(X n).c.Φ,EntryOk Tryz.prog e:=allE_cons (mkEntry_ok (F_ref06_low.ok n)) (allE_cons (mkEntry_ok (F_ref06_four.ok n)) (allE_nil))
theorem ok (n:Nat):FnOk Tryz.prog 43 ia io (fRun (X n) n T Tryz.f43 ia io):=tree_ok mixed tabIs (phi n) Tryz.func43 (by kernel_rfl) rfl
noncomputable def en (n:Nat):Entry:=mkEntry 43 ia io (fRun (X n) n T Tryz.f43 ia io)
end F_ref06_Bucket
end Go.Proofs.YtemhlkdingkjnaaGreatDoor
namespace Go.Proofs.YtemhlkdingkjnaaGreatDoor
open Go Go.Va Go.Proofs
namespace F_object_behind
abbrev ia:List Ai:=[.dat T_api_Version,.dat T_api_Version]
abbrev io:List (Nat×Oi):=[(4,.dat .bool)]
abbrev R:Type:=DOut ia io
noncomputable def X (n:Nat):Ctx:=⟨⟨tab,[],0,[]⟩,17,bnOf 0 ia⟩
noncomputable def T:CT := .o
noncomputable def f (n:Nat)(v_:D_api_Version)(last:D_api_Version):Option R:=fRun (X n) n T Tryz.f183 ia io (v_,last,())
theorem e0 (n:Nat)(v_:D_api_Version)(last:D_api_Version):f n v_ last =
  bIf ((hide (decide (v_.1>last.1)))) (
    some ((hide (decide (v_.2.2.2.2.2.1≥last.2.2.2.2.2.1))),())
    ) (
    some (false,())
    ):=(hideF_eq _).trans (by kernel_rfl)
theorem phi (n:Nat):∀ e∈(X n).c.Φ,EntryOk Tryz.prog e:=allE_nil
theorem ok (n:Nat):FnOk Tryz.prog 183 ia io (fRun (X n) n T Tryz.f183 ia io):=tree_ok mixed tabIs (phi n) Tryz.func183 (by kernel_rfl) rfl
noncomputable def en (n:Nat):Entry:=mkEntry 183 ia io (fRun (X n) n T Tryz.f183 ia io)
end F_object_behind
end Go.Proofs.YtemhlkdingkjnaaGreatDoor
namespace Go.Proofs.YtemhlkdingkjnaaGreatDoor
open Go Go.Va Go.Proofs
namespace F_object_rising
abbrev ia:List Ai:=[.dat (.slice T_api_Version)]
abbrev io:List (Nat×Oi):=[(2,.dat .bool)]
abbrev R:Type:=DOut ia io
noncomputable def X (n:Nat):Ctx:=⟨⟨tab,[F_object_Good.en n,F_object_behind.en n],0,[]⟩,30,bnOf 0 ia⟩
abbrev g1:List Si:=[.dat 0 (.slice T_api_Version),.dat 5 (.slice T_api_Version),.dat 6 (.int .i64),.dat 7 (.int .i64)]
abbrev g2:List Si:=[]
noncomputable def T:CT:=(.s .o (.s (.s .o (.b (.l g1 .o))) (.r g2 .o)))
noncomputable def J1 (n:Nat)(m:Nat):(List (D_api_Version))×(List (D_api_Version))×Int×Int×Unit→Option R:=jL (X n) n T (bodyOf Tryz.f119) (endK ia io) g1 [1,0,1,0] [] m
noncomputable def J2 (n:Nat):Unit→Option R:=jR (X n) n T (bodyOf Tryz.f119) (endK ia io) g2 [1,1] []
noncomputable def f (n:Nat)(list:List (D_api_Version)):Option R:=fRun (X n) n T Tryz.f119 ia io (list,())
theorem e0 (n:Nat)(list:List (D_api_Version)):f n list =
  J1 n n (list,list,((list.length:Nat):Int),0,()):=(hideF_eq _).trans (by kernel_rfl)
theorem e1 (n m:Nat) (list:List (D_api_Version)) (t5:List (D_api_Version)) (t6:Int) (t7:Int):J1 n (m+1) (list,t5,t6,t7,()) =
  bIf ((hide (decide (t7<t6)))) (
    gIf (0≤t7∧t7<((t5.length:Nat):Int)) (
      bnd (F_object_Good.f n (List.getD t5 t7.toNat (Va.dflt T_api_Version))) λu1=>
      bIf ((!u1.1)) (
        some (false,())
        ) (
        bIf ((hide (decide (t7>(0:Int))))) (
          gIf (0≤(IntKind.i64.wrap (t7-(1:Int)))∧(IntKind.i64.wrap (t7-(1:Int)))<((list.length:Nat):Int)) (
            bnd (F_object_behind.f n (List.getD t5 t7.toNat (Va.dflt T_api_Version)) (List.getD list ((IntKind.i64.wrap (t7-(1:Int))).toNat) (Va.dflt T_api_Version))) λu2=>
            bIf ((!u2.1)) (
              some (false,())
              ) (
              J1 n m (list,t5,t6,(IntKind.i64.wrap (t7+(1:Int))),())
              )
            )
          ) (
          J1 n m (list,t5,t6,(IntKind.i64.wrap (t7+(1:Int))),())
          )
        )
      )
    ) (
    J2 n (())
    ):=(hideF_eq _).trans (by kernel_rfl)
theorem e2 (n:Nat):J2 n (()) =
  some (true,()):=(hideF_eq _).trans (by kernel_rfl)
theorem phi (n:Nat):∀ e∈(X n).c.Φ,EntryOk Tryz.prog e:=allE_cons (mkEntry_ok (F_object_Good.ok n)) (allE_cons (mkEntry_ok (F_object_behind.ok n)) (allE_nil))
theorem ok (n:Nat):FnOk Tryz.prog 119 ia io (fRun (X n) n T Tryz.f119 ia io):=tree_ok mixed tabIs (phi n) Tryz.func119 (by kernel_rfl) rfl
noncomputable def en (n:Nat):Entry:=mkEntry 119 ia io (fRun (X n) n T Tryz.f119 ia io)
end F_object_rising
end Go.Proofs.YtemhlkdingkjnaaGreatDoor
namespace Go.Proofs.YtemhlkdingkjnaaGreatDoor
open Go Go.Va Go.Proofs
namespace F_object_Sound
abbrev ia:List Ai:=[.dat T_api_Object]
abbrev io:List (Nat×Oi):=[(2,.dat .bool)]
abbrev R:Type:=DOut ia io
noncomputable def X (n:Nat):Ctx:=⟨⟨tab,[F_label_Key.en n,F_object_rising.en n],0,[]⟩,17,bnOf 0 ia⟩
noncomputable def T:CT := .o
noncomputable def f (n:Nat)(o:D_api_Object):Option R:=fRun (X n) n T Tryz.f76 ia io (o,())
theorem e0 (n:Nat)(o:D_api_Object):f n o =
  bnd (F_label_Key.f n o.1) λu1=>
  bIf (u1.1) (
    bIf ((hide (decide (((o.2.1.length:Nat):Int)>(0:Int))))) (
      bnd (F_object_rising.f n o.2.1) λu2=>
      some (u2.1,())
      ) (
      some (false,())
      )
    ) (
    some (false,())
    ):=(hideF_eq _).trans (by kernel_rfl)
theorem phi (n:Nat):∀ e∈(X n).c.Φ,EntryOk Tryz.prog e:=allE_cons (mkEntry_ok (F_label_Key.ok n)) (allE_cons (mkEntry_ok (F_object_rising.ok n)) (allE_nil))
theorem ok (n:Nat):FnOk Tryz.prog 76 ia io (fRun (X n) n T Tryz.f76 ia io):=tree_ok mixed tabIs (phi n) Tryz.func76 (by kernel_rfl) rfl
noncomputable def en (n:Nat):Entry:=mkEntry 76 ia io (fRun (X n) n T Tryz.f76 ia io)
end F_object_Sound
end Go.Proofs.YtemhlkdingkjnaaGreatDoor
namespace Go.Proofs.YtemhlkdingkjnaaGreatDoor
open Go Go.Va Go.Proofs
namespace F_meta_census_id
abbrev ia:List Ai:=[.ptr (.p (.d T_api_State) (.p (.d (.int .i64)) (.p (.m 0 (.int .u64) .bool) (.d .unit)))),.dat (.int .u64)]
abbrev io:List (Nat×Oi):=[(4,.dat .bool)]
abbrev R:Type:=DOut ia io
noncomputable def X (n:Nat):Ctx:=⟨⟨tab,[],0,[]⟩,29,bnOf 0 ia⟩
abbrev g1:List Si:=[.ref 0 500000 T_meta_census,.dat 1 (.int .u64),.box 500000 (.p (.d T_api_State) (.p (.d (.int .i64)) (.p (.m 100000500000000 (.int .u64) .bool) (.d .unit))))]
noncomputable def T:CT:=(.s .o (.s .o (.r g1 .o)))
noncomputable def J1 (n:Nat):Int×D_meta_census×Unit→Option R:=jR (X n) n T (bodyOf Tryz.f171) (endK ia io) g1 [1,1] []
noncomputable def f (n:Nat)(c:D_meta_census)(n_:Int):Option R:=fRun (X n) n T Tryz.f171 ia io (c,n_,())
theorem e0 (n:Nat) (c:D_meta_census) (n_:Int):f n c n_ =
  bIf ((hide (decide (n_<(1:Int))))) (
    some (false,(c.1,(c.2.1,(c.2.2.1,c.2.2.2))),())
    ) (
    bIf ((hide (decide (n_≥c.1.2.1)))) (
      some (false,(c.1,(c.2.1,(c.2.2.1,c.2.2.2))),())
      ) (
      bIf ((mGet (.int .u64) .bool c.2.2.1 n_).1) (
        some (false,(c.1,(c.2.1,(c.2.2.1,c.2.2.2))),())
        ) (
        J1 n (n_,(c.1,(c.2.1,(c.2.2.1,c.2.2.2))),())
        )
      )
    ):=(hideF_eq _).trans (by kernel_rfl)
theorem e1 (n:Nat)(n_:Int)(c:D_meta_census):J1 n (n_,c,()) =
  some (true,(c.1,(c.2.1,((mSet (.int .u64) .bool c.2.2.1 n_ true),c.2.2.2))),()):=(hideF_eq _).trans (by kernel_rfl)
theorem phi (n:Nat):∀ e∈(X n).c.Φ,EntryOk Tryz.prog e:=allE_nil
theorem ok (n:Nat):FnOk Tryz.prog 171 ia io (fRun (X n) n T Tryz.f171 ia io):=tree_ok mixed tabIs (phi n) Tryz.func171 (by kernel_rfl) rfl
noncomputable def en (n:Nat):Entry:=mkEntry 171 ia io (fRun (X n) n T Tryz.f171 ia io)
end F_meta_census_id
end Go.Proofs.YtemhlkdingkjnaaGreatDoor
namespace Go.Proofs.YtemhlkdingkjnaaGreatDoor
open Go Go.Va Go.Proofs
namespace F_meta_census_object
abbrev ia:List Ai:=[.ptr (.p (.d T_api_State) (.p (.d (.int .i64)) (.p (.m 0 (.int .u64) .bool) (.d .unit)))),.dat T_api_Object]
abbrev io:List (Nat×Oi):=[(4,.dat .bool)]
abbrev R:Type:=DOut ia io
noncomputable def X (n:Nat):Ctx:=⟨⟨tab,[F_object_Sound.en n,F_meta_census_id.en n],0,[]⟩,53,bnOf 0 ia⟩
abbrev g1:List Si:=[.ref 0 500000 T_meta_census,.ref 3 3 T_api_Object,.dat 11 (.slice T_api_Version),.dat 12 (.int .i64),.dat 13 (.int .i64),.box 3 (.d T_api_Object),.box 500000 (.p (.d T_api_State) (.p (.d (.int .i64)) (.p (.m 100000500000000 (.int .u64) .bool) (.d .unit))))]
abbrev g2:List Si:=[.ref 0 500000 T_meta_census,.ref 3 3 T_api_Object,.box 3 (.d T_api_Object),.box 500000 (.p (.d T_api_State) (.p (.d (.int .i64)) (.p (.m 100000500000000 (.int .u64) .bool) (.d .unit))))]
noncomputable def T:CT:=(.s .o (.s .o (.s (.s .o (.b (.l g1 .o))) (.r g2 .o))))
noncomputable def J1 (n:Nat)(m:Nat):(List (D_api_Version))×Int×Int×D_api_Object×D_meta_census×Unit→Option R:=jL (X n) n T (bodyOf Tryz.f109) (endK ia io) g1 [1,1,0,1,0] [] m
noncomputable def J2 (n:Nat):D_api_Object×D_meta_census×Unit→Option R:=jR (X n) n T (bodyOf Tryz.f109) (endK ia io) g2 [1,1,1] []
noncomputable def f (n:Nat)(c:D_meta_census)(o:D_api_Object):Option R:=fRun (X n) n T Tryz.f109 ia io (c,o,())
theorem e0 (n:Nat)(c:D_meta_census)(o:D_api_Object):f n c o =
  bnd (F_object_Sound.f n o) λu1=>
  bIf ((!u1.1)) (
    some (false,(c.1,(c.2.1,(c.2.2.1,c.2.2.2))),())
    ) (
    J1 n n (o.2.1,((o.2.1.length:Nat):Int),0,o,(c.1,(c.2.1,(c.2.2.1,c.2.2.2))),())
    ):=(hideF_eq _).trans (by kernel_rfl)
theorem e1 (n m:Nat) (t11:List (D_api_Version)) (t12:Int) (t13:Int) (o:D_api_Object) (c:D_meta_census):J1 n (m+1) (t11,t12,t13,o,c,()) =
  bIf ((hide (decide (t13<t12)))) (
    gIf (0≤t13∧t13<((t11.length:Nat):Int)) (
      bnd (F_meta_census_id.f n (c.1,(c.2.1,(c.2.2.1,c.2.2.2))) ((List.getD t11 t13.toNat (Va.dflt T_api_Version)).1)) λu1=>
      bIf ((!u1.1)) (
        some (false,(u1.2.1.1,(u1.2.1.2.1,(u1.2.1.2.2.1,u1.2.1.2.2.2))),())
        ) (
        bIf ((hide (decide ((((((((List.getD t11 t13.toNat (Va.dflt T_api_Version)).2).2).2).2).2).1)>u1.2.1.1.1)))) (
          some (false,(u1.2.1.1,(u1.2.1.2.1,(u1.2.1.2.2.1,u1.2.1.2.2.2))),())
          ) (
          bIf ((hide (decide ((((((List.getD t11 t13.toNat (Va.dflt T_api_Version)).2).2).2).1)≥u1.2.1.1.2.2.1)))) (
            some (false,(u1.2.1.1,(u1.2.1.2.1,(u1.2.1.2.2.1,u1.2.1.2.2.2))),())
            ) (
            J1 n m (t11,t12,(IntKind.i64.wrap (t13+(1:Int))),o,(u1.2.1.1,(u1.2.1.2.1,(u1.2.1.2.2.1,u1.2.1.2.2.2))),())
            )
          )
        )
      )
    ) (
    J2 n (o,(c.1,(c.2.1,(c.2.2.1,c.2.2.2))),())
    ):=(hideF_eq _).trans (by kernel_rfl)
theorem e2 (n:Nat)(o:D_api_Object)(c:D_meta_census):J2 n (o,c,()) =
  some (true,(c.1,((IntKind.i64.wrap (c.2.1+((o.2.1.length:Nat):Int))),(c.2.2.1,c.2.2.2))),()):=(hideF_eq _).trans (by kernel_rfl)
theorem phi (n:Nat):∀ e∈(X n).c.Φ,EntryOk Tryz.prog e:=allE_cons (mkEntry_ok (F_object_Sound.ok n)) (allE_cons (mkEntry_ok (F_meta_census_id.ok n)) (allE_nil))
theorem ok (n:Nat):FnOk Tryz.prog 109 ia io (fRun (X n) n T Tryz.f109 ia io):=tree_ok mixed tabIs (phi n) Tryz.func109 (by kernel_rfl) rfl
noncomputable def en (n:Nat):Entry:=mkEntry 109 ia io (fRun (X n) n T Tryz.f109 ia io)
end F_meta_census_object
end Go.Proofs.YtemhlkdingkjnaaGreatDoor
namespace Go.Proofs.YtemhlkdingkjnaaGreatDoor
open Go Go.Va Go.Proofs
namespace F_meta_every_Object_1
abbrev ia:List Ai:=[.dat T_api_Object,.fn (.cp (.bd 109)) [(.p (.d T_api_State) (.p (.d (.int .i64)) (.p (.m 0 (.int .u64) .bool) (.d .unit))))]]
abbrev io:List (Nat×Oi):=[(3,.dat .bool)]
abbrev R:Type:=DOut ia io
noncomputable def X (n:Nat):Ctx:=⟨⟨tab,[F_meta_census_object.en n],0,[]⟩,8,bnOf 0 ia⟩
noncomputable def T:CT := .o
noncomputable def f (n:Nat)(x_:D_api_Object)(t1c0:D_meta_census):Option R:=fRun (X n) n T Tryz.f170 ia io (x_,t1c0,())
theorem e0 (n:Nat)(x_:D_api_Object)(t1c0:D_meta_census):f n x_ t1c0 =
  bnd (F_meta_census_object.f n (t1c0.1,(t1c0.2.1,(t1c0.2.2.1,t1c0.2.2.2))) x_) λu1=>
  some ((!u1.1),(u1.2.1.1,(u1.2.1.2.1,(u1.2.1.2.2.1,u1.2.1.2.2.2))),()):=(hideF_eq _).trans (by kernel_rfl)
theorem phi (n:Nat):∀ e∈(X n).c.Φ,EntryOk Tryz.prog e:=allE_cons (mkEntry_ok (F_meta_census_object.ok n)) (allE_nil)
theorem ok (n:Nat):FnOk Tryz.prog 170 ia io (fRun (X n) n T Tryz.f170 ia io):=tree_ok mixed tabIs (phi n) Tryz.func170 (by kernel_rfl) rfl
noncomputable def en (n:Nat):Entry:=mkEntry 170 ia io (fRun (X n) n T Tryz.f170 ia io)
end F_meta_every_Object_1
end Go.Proofs.YtemhlkdingkjnaaGreatDoor
namespace Go.Proofs.YtemhlkdingkjnaaGreatDoor
open Go Go.Va Go.Proofs
namespace F_slices_IndexFunc_Object
abbrev ia:List Ai:=[.dat (.slice T_api_Object),.fn (.fn1 170 (.bd 109)) [(.p (.d T_api_State) (.p (.d (.int .i64)) (.p (.m 0 (.int .u64) .bool) (.d .unit))))]]
abbrev io:List (Nat×Oi):=[(4,.dat (.int .i64))]
abbrev R:Type:=DOut ia io
noncomputable def X (n:Nat):Ctx:=⟨⟨tab,[F_meta_every_Object_1.en n],0,[]⟩,19,bnOf 0 ia⟩
abbrev g1:List Si:=[.dat 0 (.slice T_api_Object),.clo 1 (.fn1 170 (.bd 109)) [(502000,T_meta_census,false)],.dat 7 (.int .i64),.dat 8 (.int .i64),.box 502000 (.p (.d T_api_State) (.p (.d (.int .i64)) (.p (.m 100000502000000 (.int .u64) .bool) (.d .unit))))]
abbrev g2:List Si:=[.box 502000 (.p (.d T_api_State) (.p (.d (.int .i64)) (.p (.m 100000502000000 (.int .u64) .bool) (.d .unit))))]
noncomputable def T:CT:=(.s .o (.s (.s .o (.b (.l g1 .o))) (.r g2 .o)))
noncomputable def J1 (n:Nat)(m:Nat):(List (D_api_Object))×Int×Int×D_meta_census×Unit→Option R:=jL (X n) n T (bodyOf Tryz.f215) (endK ia io) g1 [1,0,1,0] [] m
noncomputable def J2 (n:Nat):D_meta_census×Unit→Option R:=jR (X n) n T (bodyOf Tryz.f215) (endK ia io) g2 [1,1] []
noncomputable def f (n:Nat)(s_:List (D_api_Object))(fc0:D_meta_census):Option R:=fRun (X n) n T Tryz.f215 ia io (s_,fc0,())
theorem e0 (n:Nat)(s_:List (D_api_Object))(fc0:D_meta_census):f n s_ fc0 =
  J1 n n (s_,((s_.length:Nat):Int),0,(fc0.1,(fc0.2.1,(fc0.2.2.1,fc0.2.2.2))),()):=(hideF_eq _).trans (by kernel_rfl)
theorem e1 (n m:Nat) (s_:List (D_api_Object)) (t7:Int) (t8:Int) (b502000:D_meta_census):J1 n (m+1) (s_,t7,t8,b502000,()) =
  bIf ((hide (decide (t8<t7)))) (
    gIf (0≤t8∧t8<((s_.length:Nat):Int)) (
      bnd (F_meta_every_Object_1.f n (List.getD s_ t8.toNat (Va.dflt T_api_Object)) (b502000.1,(b502000.2.1,(b502000.2.2.1,b502000.2.2.2)))) λu1=>
      bIf (u1.1) (
        some (t8,(u1.2.1.1,(u1.2.1.2.1,(u1.2.1.2.2.1,u1.2.1.2.2.2))),())
        ) (
        J1 n m (s_,t7,(IntKind.i64.wrap (t8+(1:Int))),(u1.2.1.1,(u1.2.1.2.1,(u1.2.1.2.2.1,u1.2.1.2.2.2))),())
        )
      )
    ) (
    J2 n ((b502000.1,(b502000.2.1,(b502000.2.2.1,b502000.2.2.2))),())
    ):=(hideF_eq _).trans (by kernel_rfl)
theorem e2 (n:Nat)(b502000:D_meta_census):J2 n (b502000,()) =
  some ((-1),(b502000.1,(b502000.2.1,(b502000.2.2.1,b502000.2.2.2))),()):=(hideF_eq _).trans (by kernel_rfl)
theorem phi (n:Nat):∀ e∈(X n).c.Φ,EntryOk Tryz.prog e:=allE_cons (mkEntry_ok (F_meta_every_Object_1.ok n)) (allE_nil)
theorem ok (n:Nat):FnOk Tryz.prog 215 ia io (fRun (X n) n T Tryz.f215 ia io):=tree_ok mixed tabIs (phi n) Tryz.func215 (by kernel_rfl) rfl
noncomputable def en (n:Nat):Entry:=mkEntry 215 ia io (fRun (X n) n T Tryz.f215 ia io)
end F_slices_IndexFunc_Object
end Go.Proofs.YtemhlkdingkjnaaGreatDoor
namespace Go.Proofs.YtemhlkdingkjnaaGreatDoor
open Go Go.Va Go.Proofs
namespace F_slices_ContainsFunc_Object
abbrev ia:List Ai:=[.dat (.slice T_api_Object),.fn (.fn1 170 (.bd 109)) [(.p (.d T_api_State) (.p (.d (.int .i64)) (.p (.m 0 (.int .u64) .bool) (.d .unit))))]]
abbrev io:List (Nat×Oi):=[(4,.dat .bool)]
abbrev R:Type:=DOut ia io
noncomputable def X (n:Nat):Ctx:=⟨⟨tab,[F_slices_IndexFunc_Object.en n],0,[]⟩,9,bnOf 0 ia⟩
noncomputable def T:CT := .o
noncomputable def f (n:Nat)(s_:List (D_api_Object))(fc0:D_meta_census):Option R:=fRun (X n) n T Tryz.f169 ia io (s_,fc0,())
theorem e0 (n:Nat)(s_:List (D_api_Object))(fc0:D_meta_census):f n s_ fc0 =
  bnd (F_slices_IndexFunc_Object.f n s_ (fc0.1,(fc0.2.1,(fc0.2.2.1,fc0.2.2.2)))) λu1=>
  some ((hide (decide (u1.1≥(0:Int)))),(u1.2.1.1,(u1.2.1.2.1,(u1.2.1.2.2.1,u1.2.1.2.2.2))),()):=(hideF_eq _).trans (by kernel_rfl)
theorem phi (n:Nat):∀ e∈(X n).c.Φ,EntryOk Tryz.prog e:=allE_cons (mkEntry_ok (F_slices_IndexFunc_Object.ok n)) (allE_nil)
theorem ok (n:Nat):FnOk Tryz.prog 169 ia io (fRun (X n) n T Tryz.f169 ia io):=tree_ok mixed tabIs (phi n) Tryz.func169 (by kernel_rfl) rfl
noncomputable def en (n:Nat):Entry:=mkEntry 169 ia io (fRun (X n) n T Tryz.f169 ia io)
end F_slices_ContainsFunc_Object
end Go.Proofs.YtemhlkdingkjnaaGreatDoor
namespace Go.Proofs.YtemhlkdingkjnaaGreatDoor
open Go Go.Va Go.Proofs
namespace F_meta_every_Object
abbrev ia:List Ai:=[.dat (.slice T_api_Object),.fn (.bd 109) [(.p (.d T_api_State) (.p (.d (.int .i64)) (.p (.m 0 (.int .u64) .bool) (.d .unit))))]]
abbrev io:List (Nat×Oi):=[(4,.dat .bool)]
abbrev R:Type:=DOut ia io
noncomputable def X (n:Nat):Ctx:=⟨⟨tab,[F_slices_ContainsFunc_Object.en n],0,[6]⟩,9,bnOf 0 ia⟩
noncomputable def T:CT := .o
noncomputable def f (n:Nat)(list:List (D_api_Object))(goodc0:D_meta_census):Option R:=fRun (X n) n T Tryz.f108 ia io (list,goodc0,())
theorem e0 (n:Nat)(list:List (D_api_Object))(goodc0:D_meta_census):f n list goodc0 =
  bnd (F_slices_ContainsFunc_Object.f n list (goodc0.1,(goodc0.2.1,(goodc0.2.2.1,goodc0.2.2.2)))) λu1=>
  some ((!u1.1),(u1.2.1.1,(u1.2.1.2.1,(u1.2.1.2.2.1,u1.2.1.2.2.2))),()):=(hideF_eq _).trans (by kernel_rfl)
theorem phi (n:Nat):∀ e∈(X n).c.Φ,EntryOk Tryz.prog e:=allE_cons (mkEntry_ok (F_slices_ContainsFunc_Object.ok n)) (allE_nil)
theorem ok (n:Nat):FnOk Tryz.prog 108 ia io (fRun (X n) n T Tryz.f108 ia io):=tree_ok mixed tabIs (phi n) Tryz.func108 (by kernel_rfl) rfl
noncomputable def en (n:Nat):Entry:=mkEntry 108 ia io (fRun (X n) n T Tryz.f108 ia io)
end F_meta_every_Object
end Go.Proofs.YtemhlkdingkjnaaGreatDoor
namespace Go.Proofs.YtemhlkdingkjnaaGreatDoor
open Go Go.Va Go.Proofs
namespace F_cmp_isNaN_int
abbrev ia:List Ai:=[.dat (.int .i64)]
abbrev io:List (Nat×Oi):=[(2,.dat .bool)]
abbrev R:Type:=DOut ia io
noncomputable def X (n:Nat):Ctx:=⟨⟨tab,[],0,[]⟩,6,bnOf 0 ia⟩
noncomputable def T:CT := .o
noncomputable def f (n:Nat)(x_:Int):Option R:=fRun (X n) n T Tryz.f227 ia io (x_,())
theorem e0 (n:Nat)(x_:Int):f n x_ =
  some ((hide (x_ != x_)),()):=(hideF_eq _).trans (by kernel_rfl)
theorem phi (n:Nat):∀ e∈(X n).c.Φ,EntryOk Tryz.prog e:=allE_nil
theorem ok (n:Nat):FnOk Tryz.prog 227 ia io (fRun (X n) n T Tryz.f227 ia io):=tree_ok mixed tabIs (phi n) Tryz.func227 (by kernel_rfl) rfl
noncomputable def en (n:Nat):Entry:=mkEntry 227 ia io (fRun (X n) n T Tryz.f227 ia io)
end F_cmp_isNaN_int
end Go.Proofs.YtemhlkdingkjnaaGreatDoor
namespace Go.Proofs.YtemhlkdingkjnaaGreatDoor
open Go Go.Va Go.Proofs
namespace F_cmp_Compare_int
abbrev ia:List Ai:=[.dat (.int .i64),.dat (.int .i64)]
abbrev io:List (Nat×Oi):=[(4,.dat (.int .i64))]
abbrev R:Type:=DOut ia io
noncomputable def X (n:Nat):Ctx:=⟨⟨tab,[F_cmp_isNaN_int.en n],0,[]⟩,20,bnOf 0 ia⟩
noncomputable def T:CT := .o
noncomputable def f (n:Nat)(x_:Int)(y_:Int):Option R:=fRun (X n) n T Tryz.f205 ia io (x_,y_,())
theorem e0 (n:Nat) (x_:Int) (y_:Int):f n x_ y_ =
  bnd (F_cmp_isNaN_int.f n x_) λu1=>
  bnd (F_cmp_isNaN_int.f n y_) λu2=>
  bIf (u1.1) (
    bIf (u2.1) (
      some (0,())
      ) (
      some ((-1),())
      )
    ) (
    bIf (u2.1) (
      some (1,())
      ) (
      bIf ((hide (decide (x_<y_)))) (
        some ((-1),())
        ) (
        bIf ((hide (decide (x_>y_)))) (
          some (1,())
          ) (
          some (0,())
          )
        )
      )
    ):=(hideF_eq _).trans (by kernel_rfl)
theorem phi (n:Nat):∀ e∈(X n).c.Φ,EntryOk Tryz.prog e:=allE_cons (mkEntry_ok (F_cmp_isNaN_int.ok n)) (allE_nil)
theorem ok (n:Nat):FnOk Tryz.prog 205 ia io (fRun (X n) n T Tryz.f205 ia io):=tree_ok mixed tabIs (phi n) Tryz.func205 (by kernel_rfl) rfl
noncomputable def en (n:Nat):Entry:=mkEntry 205 ia io (fRun (X n) n T Tryz.f205 ia io)
end F_cmp_Compare_int
end Go.Proofs.YtemhlkdingkjnaaGreatDoor
namespace Go.Proofs.YtemhlkdingkjnaaGreatDoor
open Go Go.Va Go.Proofs
namespace F_meta_byNumber
abbrev ia:List Ai:=[.dat T_api_Part,.dat T_api_Part]
abbrev io:List (Nat×Oi):=[(4,.dat (.int .i64))]
abbrev R:Type:=DOut ia io
noncomputable def X (n:Nat):Ctx:=⟨⟨tab,[F_cmp_Compare_int.en n],0,[]⟩,10,bnOf 0 ia⟩
noncomputable def T:CT := .o
noncomputable def f (n:Nat)(a:D_api_Part)(b:D_api_Part):Option R:=fRun (X n) n T Tryz.f155 ia io (a,b,())
theorem e0 (n:Nat)(a:D_api_Part)(b:D_api_Part):f n a b =
  bnd (F_cmp_Compare_int.f n a.1 b.1) λu1=>
  some (u1.1,()):=(hideF_eq _).trans (by kernel_rfl)
theorem phi (n:Nat):∀ e∈(X n).c.Φ,EntryOk Tryz.prog e:=allE_cons (mkEntry_ok (F_cmp_Compare_int.ok n)) (allE_nil)
theorem ok (n:Nat):FnOk Tryz.prog 155 ia io (fRun (X n) n T Tryz.f155 ia io):=tree_ok mixed tabIs (phi n) Tryz.func155 (by kernel_rfl) rfl
noncomputable def en (n:Nat):Entry:=mkEntry 155 ia io (fRun (X n) n T Tryz.f155 ia io)
end F_meta_byNumber
end Go.Proofs.YtemhlkdingkjnaaGreatDoor
namespace Go.Proofs.YtemhlkdingkjnaaGreatDoor
open Go Go.Va Go.Proofs
namespace F_meta_up_Part
abbrev ia:List Ai:=[.dat (.slice T_api_Part),.fn (.fn 155) []]
abbrev io:List (Nat×Oi):=[(4,.dat .bool)]
abbrev R:Type:=DOut ia io
noncomputable def X (n:Nat):Ctx:=⟨⟨tab,[F_meta_byNumber.en n],0,[]⟩,24,bnOf 0 ia⟩
abbrev g1:List Si:=[.dat 0 (.slice T_api_Part),.clo 1 (.fn 155) [],.dat 5 (.int .i64)]
abbrev g2:List Si:=[]
noncomputable def T:CT:=(.s .o (.s (.s .o (.b (.l g1 .o))) (.r g2 .o)))
noncomputable def J1 (n:Nat)(m:Nat):(List (D_api_Part))×Int×Unit→Option R:=jL (X n) n T (bodyOf Tryz.f175) (endK ia io) g1 [1,0,1,0] [] m
noncomputable def J2 (n:Nat):Unit→Option R:=jR (X n) n T (bodyOf Tryz.f175) (endK ia io) g2 [1,1] []
noncomputable def f (n:Nat)(list:List (D_api_Part)):Option R:=fRun (X n) n T Tryz.f175 ia io (list,())
theorem e0 (n:Nat)(list:List (D_api_Part)):f n list =
  J1 n n (list,1,()):=(hideF_eq _).trans (by kernel_rfl)
theorem e1 (n m:Nat) (list:List (D_api_Part)) (i:Int):J1 n (m+1) (list,i,()) =
  bIf ((hide (decide (i<((list.length:Nat):Int))))) (
    gIf (0≤(IntKind.i64.wrap (i-(1:Int)))∧(IntKind.i64.wrap (i-(1:Int)))<((list.length:Nat):Int)) (
      gIf (0≤i∧i<((list.length:Nat):Int)) (
        bnd (F_meta_byNumber.f n (List.getD list ((IntKind.i64.wrap (i-(1:Int))).toNat) (Va.dflt T_api_Part)) (List.getD list i.toNat (Va.dflt T_api_Part))) λu1=>
        bIf ((hide (decide (u1.1≥(0:Int))))) (
          some (false,())
          ) (
          J1 n m (list,(IntKind.i64.wrap (i+(1:Int))),())
          )
        )
      )
    ) (
    J2 n (())
    ):=(hideF_eq _).trans (by kernel_rfl)
theorem e2 (n:Nat):J2 n (()) =
  some (true,()):=(hideF_eq _).trans (by kernel_rfl)
theorem phi (n:Nat):∀ e∈(X n).c.Φ,EntryOk Tryz.prog e:=allE_cons (mkEntry_ok (F_meta_byNumber.ok n)) (allE_nil)
theorem ok (n:Nat):FnOk Tryz.prog 175 ia io (fRun (X n) n T Tryz.f175 ia io):=tree_ok mixed tabIs (phi n) Tryz.func175 (by kernel_rfl) rfl
noncomputable def en (n:Nat):Entry:=mkEntry 175 ia io (fRun (X n) n T Tryz.f175 ia io)
end F_meta_up_Part
end Go.Proofs.YtemhlkdingkjnaaGreatDoor
namespace Go.Proofs.YtemhlkdingkjnaaGreatDoor
open Go Go.Va Go.Proofs
namespace F_meta_census_upload_1
abbrev ia:List Ai:=[.dat T_api_Part,.fn (.cp (.str 0)) [(.p (.d T_api_State) (.p (.d (.int .i64)) (.p (.m 0 (.int .u64) .bool) (.d .unit))))]]
abbrev io:List (Nat×Oi):=[(3,.dat .bool)]
abbrev R:Type:=DOut ia io
noncomputable def X (n:Nat):Ctx:=⟨⟨tab,[F_entry_Part.en n],0,[]⟩,17,bnOf 0 ia⟩
noncomputable def T:CT := .o
noncomputable def f (n:Nat)(p:D_api_Part)(t1c0:D_meta_census):Option R:=fRun (X n) n T Tryz.f177 ia io (p,t1c0,())
theorem e0 (n:Nat)(p:D_api_Part)(t1c0:D_meta_census):f n p t1c0 =
  bnd (F_entry_Part.f n p) λu1=>
  bIf ((!u1.1)) (
    some (true,(t1c0.1,(t1c0.2.1,(t1c0.2.2.1,t1c0.2.2.2))),())
    ) (
    some ((hide (decide (p.2.2.1≥t1c0.1.2.2.1))),(t1c0.1,(t1c0.2.1,(t1c0.2.2.1,t1c0.2.2.2))),())
    ):=(hideF_eq _).trans (by kernel_rfl)
theorem phi (n:Nat):∀ e∈(X n).c.Φ,EntryOk Tryz.prog e:=allE_cons (mkEntry_ok (F_entry_Part.ok n)) (allE_nil)
theorem ok (n:Nat):FnOk Tryz.prog 177 ia io (fRun (X n) n T Tryz.f177 ia io):=tree_ok mixed tabIs (phi n) Tryz.func177 (by kernel_rfl) rfl
noncomputable def en (n:Nat):Entry:=mkEntry 177 ia io (fRun (X n) n T Tryz.f177 ia io)
end F_meta_census_upload_1
end Go.Proofs.YtemhlkdingkjnaaGreatDoor
namespace Go.Proofs.YtemhlkdingkjnaaGreatDoor
open Go Go.Va Go.Proofs
namespace F_slices_IndexFunc_Part
abbrev ia:List Ai:=[.dat (.slice T_api_Part),.fn (.fn1 177 (.str 0)) [(.p (.d T_api_State) (.p (.d (.int .i64)) (.p (.m 0 (.int .u64) .bool) (.d .unit))))]]
abbrev io:List (Nat×Oi):=[(4,.dat (.int .i64))]
abbrev R:Type:=DOut ia io
noncomputable def X (n:Nat):Ctx:=⟨⟨tab,[F_meta_census_upload_1.en n],0,[]⟩,19,bnOf 0 ia⟩
abbrev g1:List Si:=[.dat 0 (.slice T_api_Part),.clo 1 (.fn1 177 (.str 0)) [(502000,T_meta_census,false)],.dat 7 (.int .i64),.dat 8 (.int .i64),.box 502000 (.p (.d T_api_State) (.p (.d (.int .i64)) (.p (.m 100000502000000 (.int .u64) .bool) (.d .unit))))]
abbrev g2:List Si:=[.box 502000 (.p (.d T_api_State) (.p (.d (.int .i64)) (.p (.m 100000502000000 (.int .u64) .bool) (.d .unit))))]
noncomputable def T:CT:=(.s .o (.s (.s .o (.b (.l g1 .o))) (.r g2 .o)))
noncomputable def J1 (n:Nat)(m:Nat):(List (D_api_Part))×Int×Int×D_meta_census×Unit→Option R:=jL (X n) n T (bodyOf Tryz.f218) (endK ia io) g1 [1,0,1,0] [] m
noncomputable def J2 (n:Nat):D_meta_census×Unit→Option R:=jR (X n) n T (bodyOf Tryz.f218) (endK ia io) g2 [1,1] []
noncomputable def f (n:Nat)(s_:List (D_api_Part))(fc0:D_meta_census):Option R:=fRun (X n) n T Tryz.f218 ia io (s_,fc0,())
theorem e0 (n:Nat)(s_:List (D_api_Part))(fc0:D_meta_census):f n s_ fc0 =
  J1 n n (s_,((s_.length:Nat):Int),0,(fc0.1,(fc0.2.1,(fc0.2.2.1,fc0.2.2.2))),()):=(hideF_eq _).trans (by kernel_rfl)
theorem e1 (n m:Nat) (s_:List (D_api_Part)) (t7:Int) (t8:Int) (b502000:D_meta_census):J1 n (m+1) (s_,t7,t8,b502000,()) =
  bIf ((hide (decide (t8<t7)))) (
    gIf (0≤t8∧t8<((s_.length:Nat):Int)) (
      bnd (F_meta_census_upload_1.f n (List.getD s_ t8.toNat (Va.dflt T_api_Part)) (b502000.1,(b502000.2.1,(b502000.2.2.1,b502000.2.2.2)))) λu1=>
      bIf (u1.1) (
        some (t8,(u1.2.1.1,(u1.2.1.2.1,(u1.2.1.2.2.1,u1.2.1.2.2.2))),())
        ) (
        J1 n m (s_,t7,(IntKind.i64.wrap (t8+(1:Int))),(u1.2.1.1,(u1.2.1.2.1,(u1.2.1.2.2.1,u1.2.1.2.2.2))),())
        )
      )
    ) (
    J2 n ((b502000.1,(b502000.2.1,(b502000.2.2.1,b502000.2.2.2))),())
    ):=(hideF_eq _).trans (by kernel_rfl)
theorem e2 (n:Nat)(b502000:D_meta_census):J2 n (b502000,()) =
  some ((-1),(b502000.1,(b502000.2.1,(b502000.2.2.1,b502000.2.2.2))),()):=(hideF_eq _).trans (by kernel_rfl)
theorem phi (n:Nat):∀ e∈(X n).c.Φ,EntryOk Tryz.prog e:=allE_cons (mkEntry_ok (F_meta_census_upload_1.ok n)) (allE_nil)
theorem ok (n:Nat):FnOk Tryz.prog 218 ia io (fRun (X n) n T Tryz.f218 ia io):=tree_ok mixed tabIs (phi n) Tryz.func218 (by kernel_rfl) rfl
noncomputable def en (n:Nat):Entry:=mkEntry 218 ia io (fRun (X n) n T Tryz.f218 ia io)
end F_slices_IndexFunc_Part
end Go.Proofs.YtemhlkdingkjnaaGreatDoor
namespace Go.Proofs.YtemhlkdingkjnaaGreatDoor
open Go Go.Va Go.Proofs
namespace F_slices_ContainsFunc_Part
abbrev ia:List Ai:=[.dat (.slice T_api_Part),.fn (.fn1 177 (.str 0)) [(.p (.d T_api_State) (.p (.d (.int .i64)) (.p (.m 0 (.int .u64) .bool) (.d .unit))))]]
abbrev io:List (Nat×Oi):=[(4,.dat .bool)]
abbrev R:Type:=DOut ia io
noncomputable def X (n:Nat):Ctx:=⟨⟨tab,[F_slices_IndexFunc_Part.en n],0,[]⟩,9,bnOf 0 ia⟩
noncomputable def T:CT := .o
noncomputable def f (n:Nat)(s_:List (D_api_Part))(fc0:D_meta_census):Option R:=fRun (X n) n T Tryz.f176 ia io (s_,fc0,())
theorem e0 (n:Nat)(s_:List (D_api_Part))(fc0:D_meta_census):f n s_ fc0 =
  bnd (F_slices_IndexFunc_Part.f n s_ (fc0.1,(fc0.2.1,(fc0.2.2.1,fc0.2.2.2)))) λu1=>
  some ((hide (decide (u1.1≥(0:Int)))),(u1.2.1.1,(u1.2.1.2.1,(u1.2.1.2.2.1,u1.2.1.2.2.2))),()):=(hideF_eq _).trans (by kernel_rfl)
theorem phi (n:Nat):∀ e∈(X n).c.Φ,EntryOk Tryz.prog e:=allE_cons (mkEntry_ok (F_slices_IndexFunc_Part.ok n)) (allE_nil)
theorem ok (n:Nat):FnOk Tryz.prog 176 ia io (fRun (X n) n T Tryz.f176 ia io):=tree_ok mixed tabIs (phi n) Tryz.func176 (by kernel_rfl) rfl
noncomputable def en (n:Nat):Entry:=mkEntry 176 ia io (fRun (X n) n T Tryz.f176 ia io)
end F_slices_ContainsFunc_Part
end Go.Proofs.YtemhlkdingkjnaaGreatDoor
namespace Go.Proofs.YtemhlkdingkjnaaGreatDoor
open Go Go.Va Go.Proofs
namespace F_meta_census_upload
abbrev ia:List Ai:=[.ptr (.p (.d T_api_State) (.p (.d (.int .i64)) (.p (.m 0 (.int .u64) .bool) (.d .unit)))),.dat T_api_Upload]
abbrev io:List (Nat×Oi):=[(4,.dat .bool)]
abbrev R:Type:=DOut ia io
noncomputable def X (n:Nat):Ctx:=⟨⟨tab,[F_label_Key.en n,F_meta_census_id.en n,F_tags_Sound.en n,F_meta_up_Part.en n,F_slices_ContainsFunc_Part.en n],0,[36]⟩,39,bnOf 0 ia⟩
abbrev g1:List Si:=[.ref 2 2 (.opq 0),.ref 3 3 T_api_Upload,.box 2 (.al 500000 T_meta_census),.box 3 (.d T_api_Upload),.box 500000 (.p (.d T_api_State) (.p (.d (.int .i64)) (.p (.m 100000500000000 (.int .u64) .bool) (.d .unit))))]
noncomputable def T:CT:=(.s .o (.s .o (.r g1 .o)))
noncomputable def J1 (n:Nat):Unit×D_api_Upload×D_meta_census×Unit→Option R:=jR (X n) n T (bodyOf Tryz.f111) (endK ia io) g1 [1,1] []
noncomputable def f (n:Nat)(c:D_meta_census)(u:D_api_Upload):Option R:=fRun (X n) n T Tryz.f111 ia io (c,u,())
theorem e0 (n:Nat) (c:D_meta_census) (u:D_api_Upload):f n c u =
  bnd (F_meta_census_id.f n (c.1,(c.2.1,(c.2.2.1,c.2.2.2))) u.1) λu1=>
  bIf ((!u1.1)) (
    some (false,(u1.2.1.1,(u1.2.1.2.1,(u1.2.1.2.2.1,u1.2.1.2.2.2))),())
    ) (
    bnd (F_label_Key.f n u.2.1) λu2=>
    bIf ((!u2.1)) (
      some (false,(u1.2.1.1,(u1.2.1.2.1,(u1.2.1.2.2.1,u1.2.1.2.2.2))),())
      ) (
      bnd (F_tags_Sound.f n u.2.2.1) λu3=>
      bIf ((!u3.1)) (
        some (false,(u1.2.1.1,(u1.2.1.2.1,(u1.2.1.2.2.1,u1.2.1.2.2.2))),())
        ) (
        bIf ((hide (decide (((u.2.2.2.1.length:Nat):Int)>(16:Int))))) (
          some (false,(u1.2.1.1,(u1.2.1.2.1,(u1.2.1.2.2.1,u1.2.1.2.2.2))),())
          ) (
          bnd (F_meta_up_Part.f n u.2.2.2.1) λu4=>
          bIf ((!u4.1)) (
            some (false,(u1.2.1.1,(u1.2.1.2.1,(u1.2.1.2.2.1,u1.2.1.2.2.2))),())
            ) (
            J1 n ((),u,(u1.2.1.1,(u1.2.1.2.1,(u1.2.1.2.2.1,u1.2.1.2.2.2))),())
            )
          )
        )
      )
    ):=(hideF_eq _).trans (by kernel_rfl)
theorem e1 (n:Nat)(c:Unit)(u:D_api_Upload)(b500000:D_meta_census):J1 n (c,u,b500000,()) =
  bnd (F_slices_ContainsFunc_Part.f n u.2.2.2.1 (b500000.1,(b500000.2.1,(b500000.2.2.1,b500000.2.2.2)))) λu1=>
  some ((!u1.1),(u1.2.1.1,(u1.2.1.2.1,(u1.2.1.2.2.1,u1.2.1.2.2.2))),()):=(hideF_eq _).trans (by kernel_rfl)
theorem phi (n:Nat):∀ e∈(X n).c.Φ,EntryOk Tryz.prog e:=allE_cons (mkEntry_ok (F_label_Key.ok n)) (allE_cons (mkEntry_ok (F_meta_census_id.ok n)) (allE_cons (mkEntry_ok (F_tags_Sound.ok n)) (allE_cons (mkEntry_ok (F_meta_up_Part.ok n)) (allE_cons (mkEntry_ok (F_slices_ContainsFunc_Part.ok n)) (allE_nil)))))
theorem ok (n:Nat):FnOk Tryz.prog 111 ia io (fRun (X n) n T Tryz.f111 ia io):=tree_ok mixed tabIs (phi n) Tryz.func111 (by kernel_rfl) rfl
noncomputable def en (n:Nat):Entry:=mkEntry 111 ia io (fRun (X n) n T Tryz.f111 ia io)
end F_meta_census_upload
end Go.Proofs.YtemhlkdingkjnaaGreatDoor
namespace Go.Proofs.YtemhlkdingkjnaaGreatDoor
open Go Go.Va Go.Proofs
namespace F_meta_every_Upload_1
abbrev ia:List Ai:=[.dat T_api_Upload,.fn (.cp (.bd 111)) [(.p (.d T_api_State) (.p (.d (.int .i64)) (.p (.m 0 (.int .u64) .bool) (.d .unit))))]]
abbrev io:List (Nat×Oi):=[(3,.dat .bool)]
abbrev R:Type:=DOut ia io
noncomputable def X (n:Nat):Ctx:=⟨⟨tab,[F_meta_census_upload.en n],0,[]⟩,8,bnOf 0 ia⟩
noncomputable def T:CT := .o
noncomputable def f (n:Nat)(x_:D_api_Upload)(t1c0:D_meta_census):Option R:=fRun (X n) n T Tryz.f173 ia io (x_,t1c0,())
theorem e0 (n:Nat)(x_:D_api_Upload)(t1c0:D_meta_census):f n x_ t1c0 =
  bnd (F_meta_census_upload.f n (t1c0.1,(t1c0.2.1,(t1c0.2.2.1,t1c0.2.2.2))) x_) λu1=>
  some ((!u1.1),(u1.2.1.1,(u1.2.1.2.1,(u1.2.1.2.2.1,u1.2.1.2.2.2))),()):=(hideF_eq _).trans (by kernel_rfl)
theorem phi (n:Nat):∀ e∈(X n).c.Φ,EntryOk Tryz.prog e:=allE_cons (mkEntry_ok (F_meta_census_upload.ok n)) (allE_nil)
theorem ok (n:Nat):FnOk Tryz.prog 173 ia io (fRun (X n) n T Tryz.f173 ia io):=tree_ok mixed tabIs (phi n) Tryz.func173 (by kernel_rfl) rfl
noncomputable def en (n:Nat):Entry:=mkEntry 173 ia io (fRun (X n) n T Tryz.f173 ia io)
end F_meta_every_Upload_1
end Go.Proofs.YtemhlkdingkjnaaGreatDoor
namespace Go.Proofs.YtemhlkdingkjnaaGreatDoor
open Go Go.Va Go.Proofs
namespace F_slices_IndexFunc_Upload
abbrev ia:List Ai:=[.dat (.slice T_api_Upload),.fn (.fn1 173 (.bd 111)) [(.p (.d T_api_State) (.p (.d (.int .i64)) (.p (.m 0 (.int .u64) .bool) (.d .unit))))]]
abbrev io:List (Nat×Oi):=[(4,.dat (.int .i64))]
abbrev R:Type:=DOut ia io
noncomputable def X (n:Nat):Ctx:=⟨⟨tab,[F_meta_every_Upload_1.en n],0,[]⟩,19,bnOf 0 ia⟩
abbrev g1:List Si:=[.dat 0 (.slice T_api_Upload),.clo 1 (.fn1 173 (.bd 111)) [(502000,T_meta_census,false)],.dat 7 (.int .i64),.dat 8 (.int .i64),.box 502000 (.p (.d T_api_State) (.p (.d (.int .i64)) (.p (.m 100000502000000 (.int .u64) .bool) (.d .unit))))]
abbrev g2:List Si:=[.box 502000 (.p (.d T_api_State) (.p (.d (.int .i64)) (.p (.m 100000502000000 (.int .u64) .bool) (.d .unit))))]
noncomputable def T:CT:=(.s .o (.s (.s .o (.b (.l g1 .o))) (.r g2 .o)))
noncomputable def J1 (n:Nat)(m:Nat):(List (D_api_Upload))×Int×Int×D_meta_census×Unit→Option R:=jL (X n) n T (bodyOf Tryz.f216) (endK ia io) g1 [1,0,1,0] [] m
noncomputable def J2 (n:Nat):D_meta_census×Unit→Option R:=jR (X n) n T (bodyOf Tryz.f216) (endK ia io) g2 [1,1] []
noncomputable def f (n:Nat)(s_:List (D_api_Upload))(fc0:D_meta_census):Option R:=fRun (X n) n T Tryz.f216 ia io (s_,fc0,())
theorem e0 (n:Nat)(s_:List (D_api_Upload))(fc0:D_meta_census):f n s_ fc0 =
  J1 n n (s_,((s_.length:Nat):Int),0,(fc0.1,(fc0.2.1,(fc0.2.2.1,fc0.2.2.2))),()):=(hideF_eq _).trans (by kernel_rfl)
theorem e1 (n m:Nat) (s_:List (D_api_Upload)) (t7:Int) (t8:Int) (b502000:D_meta_census):J1 n (m+1) (s_,t7,t8,b502000,()) =
  bIf ((hide (decide (t8<t7)))) (
    gIf (0≤t8∧t8<((s_.length:Nat):Int)) (
      bnd (F_meta_every_Upload_1.f n (List.getD s_ t8.toNat (Va.dflt T_api_Upload)) (b502000.1,(b502000.2.1,(b502000.2.2.1,b502000.2.2.2)))) λu1=>
      bIf (u1.1) (
        some (t8,(u1.2.1.1,(u1.2.1.2.1,(u1.2.1.2.2.1,u1.2.1.2.2.2))),())
        ) (
        J1 n m (s_,t7,(IntKind.i64.wrap (t8+(1:Int))),(u1.2.1.1,(u1.2.1.2.1,(u1.2.1.2.2.1,u1.2.1.2.2.2))),())
        )
      )
    ) (
    J2 n ((b502000.1,(b502000.2.1,(b502000.2.2.1,b502000.2.2.2))),())
    ):=(hideF_eq _).trans (by kernel_rfl)
theorem e2 (n:Nat)(b502000:D_meta_census):J2 n (b502000,()) =
  some ((-1),(b502000.1,(b502000.2.1,(b502000.2.2.1,b502000.2.2.2))),()):=(hideF_eq _).trans (by kernel_rfl)
theorem phi (n:Nat):∀ e∈(X n).c.Φ,EntryOk Tryz.prog e:=allE_cons (mkEntry_ok (F_meta_every_Upload_1.ok n)) (allE_nil)
theorem ok (n:Nat):FnOk Tryz.prog 216 ia io (fRun (X n) n T Tryz.f216 ia io):=tree_ok mixed tabIs (phi n) Tryz.func216 (by kernel_rfl) rfl
noncomputable def en (n:Nat):Entry:=mkEntry 216 ia io (fRun (X n) n T Tryz.f216 ia io)
end F_slices_IndexFunc_Upload
end Go.Proofs.YtemhlkdingkjnaaGreatDoor
namespace Go.Proofs.YtemhlkdingkjnaaGreatDoor
open Go Go.Va Go.Proofs
namespace F_slices_ContainsFunc_Upload
abbrev ia:List Ai:=[.dat (.slice T_api_Upload),.fn (.fn1 173 (.bd 111)) [(.p (.d T_api_State) (.p (.d (.int .i64)) (.p (.m 0 (.int .u64) .bool) (.d .unit))))]]
abbrev io:List (Nat×Oi):=[(4,.dat .bool)]
abbrev R:Type:=DOut ia io
noncomputable def X (n:Nat):Ctx:=⟨⟨tab,[F_slices_IndexFunc_Upload.en n],0,[]⟩,9,bnOf 0 ia⟩
noncomputable def T:CT := .o
noncomputable def f (n:Nat)(s_:List (D_api_Upload))(fc0:D_meta_census):Option R:=fRun (X n) n T Tryz.f172 ia io (s_,fc0,())
theorem e0 (n:Nat)(s_:List (D_api_Upload))(fc0:D_meta_census):f n s_ fc0 =
  bnd (F_slices_IndexFunc_Upload.f n s_ (fc0.1,(fc0.2.1,(fc0.2.2.1,fc0.2.2.2)))) λu1=>
  some ((hide (decide (u1.1≥(0:Int)))),(u1.2.1.1,(u1.2.1.2.1,(u1.2.1.2.2.1,u1.2.1.2.2.2))),()):=(hideF_eq _).trans (by kernel_rfl)
theorem phi (n:Nat):∀ e∈(X n).c.Φ,EntryOk Tryz.prog e:=allE_cons (mkEntry_ok (F_slices_IndexFunc_Upload.ok n)) (allE_nil)
theorem ok (n:Nat):FnOk Tryz.prog 172 ia io (fRun (X n) n T Tryz.f172 ia io):=tree_ok mixed tabIs (phi n) Tryz.func172 (by kernel_rfl) rfl
noncomputable def en (n:Nat):Entry:=mkEntry 172 ia io (fRun (X n) n T Tryz.f172 ia io)
end F_slices_ContainsFunc_Upload
end Go.Proofs.YtemhlkdingkjnaaGreatDoor
namespace Go.Proofs.YtemhlkdingkjnaaGreatDoor
open Go Go.Va Go.Proofs
namespace F_meta_every_Upload
abbrev ia:List Ai:=[.dat (.slice T_api_Upload),.fn (.bd 111) [(.p (.d T_api_State) (.p (.d (.int .i64)) (.p (.m 0 (.int .u64) .bool) (.d .unit))))]]
abbrev io:List (Nat×Oi):=[(4,.dat .bool)]
abbrev R:Type:=DOut ia io
noncomputable def X (n:Nat):Ctx:=⟨⟨tab,[F_slices_ContainsFunc_Upload.en n],0,[6]⟩,9,bnOf 0 ia⟩
noncomputable def T:CT := .o
noncomputable def f (n:Nat)(list:List (D_api_Upload))(goodc0:D_meta_census):Option R:=fRun (X n) n T Tryz.f110 ia io (list,goodc0,())
theorem e0 (n:Nat)(list:List (D_api_Upload))(goodc0:D_meta_census):f n list goodc0 =
  bnd (F_slices_ContainsFunc_Upload.f n list (goodc0.1,(goodc0.2.1,(goodc0.2.2.1,goodc0.2.2.2)))) λu1=>
  some ((!u1.1),(u1.2.1.1,(u1.2.1.2.1,(u1.2.1.2.2.1,u1.2.1.2.2.2))),()):=(hideF_eq _).trans (by kernel_rfl)
theorem phi (n:Nat):∀ e∈(X n).c.Φ,EntryOk Tryz.prog e:=allE_cons (mkEntry_ok (F_slices_ContainsFunc_Upload.ok n)) (allE_nil)
theorem ok (n:Nat):FnOk Tryz.prog 110 ia io (fRun (X n) n T Tryz.f110 ia io):=tree_ok mixed tabIs (phi n) Tryz.func110 (by kernel_rfl) rfl
noncomputable def en (n:Nat):Entry:=mkEntry 110 ia io (fRun (X n) n T Tryz.f110 ia io)
end F_meta_every_Upload
end Go.Proofs.YtemhlkdingkjnaaGreatDoor
namespace Go.Proofs.YtemhlkdingkjnaaGreatDoor
open Go Go.Va Go.Proofs
namespace F_cmp_isNaN_string
abbrev ia:List Ai:=[.dat .str]
abbrev io:List (Nat×Oi):=[(2,.dat .bool)]
abbrev R:Type:=DOut ia io
noncomputable def X (n:Nat):Ctx:=⟨⟨tab,[],0,[]⟩,6,bnOf 0 ia⟩
noncomputable def T:CT := .o
noncomputable def f (n:Nat)(x_:ByteArray):Option R:=fRun (X n) n T Tryz.f112 ia io (x_,())
theorem e0 (n:Nat)(x_:ByteArray):f n x_ =
  some ((hide (!eqS x_ x_)),()):=(hideF_eq _).trans (by kernel_rfl)
theorem phi (n:Nat):∀ e∈(X n).c.Φ,EntryOk Tryz.prog e:=allE_nil
theorem ok (n:Nat):FnOk Tryz.prog 112 ia io (fRun (X n) n T Tryz.f112 ia io):=tree_ok mixed tabIs (phi n) Tryz.func112 (by kernel_rfl) rfl
noncomputable def en (n:Nat):Entry:=mkEntry 112 ia io (fRun (X n) n T Tryz.f112 ia io)
end F_cmp_isNaN_string
end Go.Proofs.YtemhlkdingkjnaaGreatDoor
namespace Go.Proofs.YtemhlkdingkjnaaGreatDoor
open Go Go.Va Go.Proofs
namespace F_cmp_Compare_string
abbrev ia:List Ai:=[.dat .str,.dat .str]
abbrev io:List (Nat×Oi):=[(4,.dat (.int .i64))]
abbrev R:Type:=DOut ia io
noncomputable def X (n:Nat):Ctx:=⟨⟨tab,[F_cmp_isNaN_string.en n],0,[]⟩,20,bnOf 0 ia⟩
noncomputable def T:CT := .o
noncomputable def f (n:Nat)(x_:ByteArray)(y_:ByteArray):Option R:=fRun (X n) n T Tryz.f69 ia io (x_,y_,())
theorem e0 (n:Nat) (x_:ByteArray) (y_:ByteArray):f n x_ y_ =
  bnd (F_cmp_isNaN_string.f n x_) λu1=>
  bnd (F_cmp_isNaN_string.f n y_) λu2=>
  bIf (u1.1) (
    bIf (u2.1) (
      some (0,())
      ) (
      some ((-1),())
      )
    ) (
    bIf (u2.1) (
      some (1,())
      ) (
      bIf ((hide (ltS x_ y_))) (
        some ((-1),())
        ) (
        bIf ((hide (!(ltS x_ y_||eqS x_ y_)))) (
          some (1,())
          ) (
          some (0,())
          )
        )
      )
    ):=(hideF_eq _).trans (by kernel_rfl)
theorem phi (n:Nat):∀ e∈(X n).c.Φ,EntryOk Tryz.prog e:=allE_cons (mkEntry_ok (F_cmp_isNaN_string.ok n)) (allE_nil)
theorem ok (n:Nat):FnOk Tryz.prog 69 ia io (fRun (X n) n T Tryz.f69 ia io):=tree_ok mixed tabIs (phi n) Tryz.func69 (by kernel_rfl) rfl
noncomputable def en (n:Nat):Entry:=mkEntry 69 ia io (fRun (X n) n T Tryz.f69 ia io)
end F_cmp_Compare_string
end Go.Proofs.YtemhlkdingkjnaaGreatDoor
namespace Go.Proofs.YtemhlkdingkjnaaGreatDoor
open Go Go.Va Go.Proofs
namespace F_meta_byKey
abbrev ia:List Ai:=[.dat T_api_Object,.dat T_api_Object]
abbrev io:List (Nat×Oi):=[(4,.dat (.int .i64))]
abbrev R:Type:=DOut ia io
noncomputable def X (n:Nat):Ctx:=⟨⟨tab,[F_cmp_Compare_string.en n],0,[]⟩,10,bnOf 0 ia⟩
noncomputable def T:CT := .o
noncomputable def f (n:Nat)(a:D_api_Object)(b:D_api_Object):Option R:=fRun (X n) n T Tryz.f36 ia io (a,b,())
theorem e0 (n:Nat)(a:D_api_Object)(b:D_api_Object):f n a b =
  bnd (F_cmp_Compare_string.f n a.1 b.1) λu1=>
  some (u1.1,()):=(hideF_eq _).trans (by kernel_rfl)
theorem phi (n:Nat):∀ e∈(X n).c.Φ,EntryOk Tryz.prog e:=allE_cons (mkEntry_ok (F_cmp_Compare_string.ok n)) (allE_nil)
theorem ok (n:Nat):FnOk Tryz.prog 36 ia io (fRun (X n) n T Tryz.f36 ia io):=tree_ok mixed tabIs (phi n) Tryz.func36 (by kernel_rfl) rfl
noncomputable def en (n:Nat):Entry:=mkEntry 36 ia io (fRun (X n) n T Tryz.f36 ia io)
end F_meta_byKey
end Go.Proofs.YtemhlkdingkjnaaGreatDoor
namespace Go.Proofs.YtemhlkdingkjnaaGreatDoor
open Go Go.Va Go.Proofs
namespace F_meta_up_Object
abbrev ia:List Ai:=[.dat (.slice T_api_Object),.fn (.fn 36) []]
abbrev io:List (Nat×Oi):=[(4,.dat .bool)]
abbrev R:Type:=DOut ia io
noncomputable def X (n:Nat):Ctx:=⟨⟨tab,[F_meta_byKey.en n],0,[]⟩,24,bnOf 0 ia⟩
abbrev g1:List Si:=[.dat 0 (.slice T_api_Object),.clo 1 (.fn 36) [],.dat 5 (.int .i64)]
abbrev g2:List Si:=[]
noncomputable def T:CT:=(.s .o (.s (.s .o (.b (.l g1 .o))) (.r g2 .o)))
noncomputable def J1 (n:Nat)(m:Nat):(List (D_api_Object))×Int×Unit→Option R:=jL (X n) n T (bodyOf Tryz.f105) (endK ia io) g1 [1,0,1,0] [] m
noncomputable def J2 (n:Nat):Unit→Option R:=jR (X n) n T (bodyOf Tryz.f105) (endK ia io) g2 [1,1] []
noncomputable def f (n:Nat)(list:List (D_api_Object)):Option R:=fRun (X n) n T Tryz.f105 ia io (list,())
theorem e0 (n:Nat)(list:List (D_api_Object)):f n list =
  J1 n n (list,1,()):=(hideF_eq _).trans (by kernel_rfl)
theorem e1 (n m:Nat) (list:List (D_api_Object)) (i:Int):J1 n (m+1) (list,i,()) =
  bIf ((hide (decide (i<((list.length:Nat):Int))))) (
    gIf (0≤(IntKind.i64.wrap (i-(1:Int)))∧(IntKind.i64.wrap (i-(1:Int)))<((list.length:Nat):Int)) (
      gIf (0≤i∧i<((list.length:Nat):Int)) (
        bnd (F_meta_byKey.f n (List.getD list ((IntKind.i64.wrap (i-(1:Int))).toNat) (Va.dflt T_api_Object)) (List.getD list i.toNat (Va.dflt T_api_Object))) λu1=>
        bIf ((hide (decide (u1.1≥(0:Int))))) (
          some (false,())
          ) (
          J1 n m (list,(IntKind.i64.wrap (i+(1:Int))),())
          )
        )
      )
    ) (
    J2 n (())
    ):=(hideF_eq _).trans (by kernel_rfl)
theorem e2 (n:Nat):J2 n (()) =
  some (true,()):=(hideF_eq _).trans (by kernel_rfl)
theorem phi (n:Nat):∀ e∈(X n).c.Φ,EntryOk Tryz.prog e:=allE_cons (mkEntry_ok (F_meta_byKey.ok n)) (allE_nil)
theorem ok (n:Nat):FnOk Tryz.prog 105 ia io (fRun (X n) n T Tryz.f105 ia io):=tree_ok mixed tabIs (phi n) Tryz.func105 (by kernel_rfl) rfl
noncomputable def en (n:Nat):Entry:=mkEntry 105 ia io (fRun (X n) n T Tryz.f105 ia io)
end F_meta_up_Object
end Go.Proofs.YtemhlkdingkjnaaGreatDoor
namespace Go.Proofs.YtemhlkdingkjnaaGreatDoor
open Go Go.Va Go.Proofs
namespace F_cmp_isNaN_uint64
abbrev ia:List Ai:=[.dat (.int .u64)]
abbrev io:List (Nat×Oi):=[(2,.dat .bool)]
abbrev R:Type:=DOut ia io
noncomputable def X (n:Nat):Ctx:=⟨⟨tab,[],0,[]⟩,6,bnOf 0 ia⟩
noncomputable def T:CT := .o
noncomputable def f (n:Nat)(x_:Int):Option R:=fRun (X n) n T Tryz.f91 ia io (x_,())
theorem e0 (n:Nat)(x_:Int):f n x_ =
  some ((hide (x_ != x_)),()):=(hideF_eq _).trans (by kernel_rfl)
theorem phi (n:Nat):∀ e∈(X n).c.Φ,EntryOk Tryz.prog e:=allE_nil
theorem ok (n:Nat):FnOk Tryz.prog 91 ia io (fRun (X n) n T Tryz.f91 ia io):=tree_ok mixed tabIs (phi n) Tryz.func91 (by kernel_rfl) rfl
noncomputable def en (n:Nat):Entry:=mkEntry 91 ia io (fRun (X n) n T Tryz.f91 ia io)
end F_cmp_isNaN_uint64
end Go.Proofs.YtemhlkdingkjnaaGreatDoor
namespace Go.Proofs.YtemhlkdingkjnaaGreatDoor
open Go Go.Va Go.Proofs
namespace F_cmp_Compare_uint64
abbrev ia:List Ai:=[.dat (.int .u64),.dat (.int .u64)]
abbrev io:List (Nat×Oi):=[(4,.dat (.int .i64))]
abbrev R:Type:=DOut ia io
noncomputable def X (n:Nat):Ctx:=⟨⟨tab,[F_cmp_isNaN_uint64.en n],0,[]⟩,20,bnOf 0 ia⟩
noncomputable def T:CT := .o
noncomputable def f (n:Nat)(x_:Int)(y_:Int):Option R:=fRun (X n) n T Tryz.f56 ia io (x_,y_,())
theorem e0 (n:Nat) (x_:Int) (y_:Int):f n x_ y_ =
  bnd (F_cmp_isNaN_uint64.f n x_) λu1=>
  bnd (F_cmp_isNaN_uint64.f n y_) λu2=>
  bIf (u1.1) (
    bIf (u2.1) (
      some (0,())
      ) (
      some ((-1),())
      )
    ) (
    bIf (u2.1) (
      some (1,())
      ) (
      bIf ((hide (decide (x_<y_)))) (
        some ((-1),())
        ) (
        bIf ((hide (decide (x_>y_)))) (
          some (1,())
          ) (
          some (0,())
          )
        )
      )
    ):=(hideF_eq _).trans (by kernel_rfl)
theorem phi (n:Nat):∀ e∈(X n).c.Φ,EntryOk Tryz.prog e:=allE_cons (mkEntry_ok (F_cmp_isNaN_uint64.ok n)) (allE_nil)
theorem ok (n:Nat):FnOk Tryz.prog 56 ia io (fRun (X n) n T Tryz.f56 ia io):=tree_ok mixed tabIs (phi n) Tryz.func56 (by kernel_rfl) rfl
noncomputable def en (n:Nat):Entry:=mkEntry 56 ia io (fRun (X n) n T Tryz.f56 ia io)
end F_cmp_Compare_uint64
end Go.Proofs.YtemhlkdingkjnaaGreatDoor
namespace Go.Proofs.YtemhlkdingkjnaaGreatDoor
open Go Go.Va Go.Proofs
namespace F_meta_byID
abbrev ia:List Ai:=[.dat T_api_Upload,.dat T_api_Upload]
abbrev io:List (Nat×Oi):=[(4,.dat (.int .i64))]
abbrev R:Type:=DOut ia io
noncomputable def X (n:Nat):Ctx:=⟨⟨tab,[F_cmp_Compare_uint64.en n],0,[]⟩,10,bnOf 0 ia⟩
noncomputable def T:CT := .o
noncomputable def f (n:Nat)(a:D_api_Upload)(b:D_api_Upload):Option R:=fRun (X n) n T Tryz.f107 ia io (a,b,())
theorem e0 (n:Nat)(a:D_api_Upload)(b:D_api_Upload):f n a b =
  bnd (F_cmp_Compare_uint64.f n a.1 b.1) λu1=>
  some (u1.1,()):=(hideF_eq _).trans (by kernel_rfl)
theorem phi (n:Nat):∀ e∈(X n).c.Φ,EntryOk Tryz.prog e:=allE_cons (mkEntry_ok (F_cmp_Compare_uint64.ok n)) (allE_nil)
theorem ok (n:Nat):FnOk Tryz.prog 107 ia io (fRun (X n) n T Tryz.f107 ia io):=tree_ok mixed tabIs (phi n) Tryz.func107 (by kernel_rfl) rfl
noncomputable def en (n:Nat):Entry:=mkEntry 107 ia io (fRun (X n) n T Tryz.f107 ia io)
end F_meta_byID
end Go.Proofs.YtemhlkdingkjnaaGreatDoor
namespace Go.Proofs.YtemhlkdingkjnaaGreatDoor
open Go Go.Va Go.Proofs
namespace F_meta_up_Upload
abbrev ia:List Ai:=[.dat (.slice T_api_Upload),.fn (.fn 107) []]
abbrev io:List (Nat×Oi):=[(4,.dat .bool)]
abbrev R:Type:=DOut ia io
noncomputable def X (n:Nat):Ctx:=⟨⟨tab,[F_meta_byID.en n],0,[]⟩,24,bnOf 0 ia⟩
abbrev g1:List Si:=[.dat 0 (.slice T_api_Upload),.clo 1 (.fn 107) [],.dat 5 (.int .i64)]
abbrev g2:List Si:=[]
noncomputable def T:CT:=(.s .o (.s (.s .o (.b (.l g1 .o))) (.r g2 .o)))
noncomputable def J1 (n:Nat)(m:Nat):(List (D_api_Upload))×Int×Unit→Option R:=jL (X n) n T (bodyOf Tryz.f106) (endK ia io) g1 [1,0,1,0] [] m
noncomputable def J2 (n:Nat):Unit→Option R:=jR (X n) n T (bodyOf Tryz.f106) (endK ia io) g2 [1,1] []
noncomputable def f (n:Nat)(list:List (D_api_Upload)):Option R:=fRun (X n) n T Tryz.f106 ia io (list,())
theorem e0 (n:Nat)(list:List (D_api_Upload)):f n list =
  J1 n n (list,1,()):=(hideF_eq _).trans (by kernel_rfl)
theorem e1 (n m:Nat) (list:List (D_api_Upload)) (i:Int):J1 n (m+1) (list,i,()) =
  bIf ((hide (decide (i<((list.length:Nat):Int))))) (
    gIf (0≤(IntKind.i64.wrap (i-(1:Int)))∧(IntKind.i64.wrap (i-(1:Int)))<((list.length:Nat):Int)) (
      gIf (0≤i∧i<((list.length:Nat):Int)) (
        bnd (F_meta_byID.f n (List.getD list ((IntKind.i64.wrap (i-(1:Int))).toNat) (Va.dflt T_api_Upload)) (List.getD list i.toNat (Va.dflt T_api_Upload))) λu1=>
        bIf ((hide (decide (u1.1≥(0:Int))))) (
          some (false,())
          ) (
          J1 n m (list,(IntKind.i64.wrap (i+(1:Int))),())
          )
        )
      )
    ) (
    J2 n (())
    ):=(hideF_eq _).trans (by kernel_rfl)
theorem e2 (n:Nat):J2 n (()) =
  some (true,()):=(hideF_eq _).trans (by kernel_rfl)
theorem phi (n:Nat):∀ e∈(X n).c.Φ,EntryOk Tryz.prog e:=allE_cons (mkEntry_ok (F_meta_byID.ok n)) (allE_nil)
theorem ok (n:Nat):FnOk Tryz.prog 106 ia io (fRun (X n) n T Tryz.f106 ia io):=tree_ok mixed tabIs (phi n) Tryz.func106 (by kernel_rfl) rfl
noncomputable def en (n:Nat):Entry:=mkEntry 106 ia io (fRun (X n) n T Tryz.f106 ia io)
end F_meta_up_Upload
end Go.Proofs.YtemhlkdingkjnaaGreatDoor
namespace Go.Proofs.YtemhlkdingkjnaaGreatDoor
open Go Go.Va Go.Proofs
namespace F_meta_census_bucket
abbrev ia:List Ai:=[.ptr (.p (.d T_api_State) (.p (.d (.int .i64)) (.p (.m 0 (.int .u64) .bool) (.d .unit)))),.dat T_api_Bucket]
abbrev io:List (Nat×Oi):=[(4,.dat .bool)]
abbrev R:Type:=DOut ia io
noncomputable def X (n:Nat):Ctx:=⟨⟨tab,[F_label_Bucket.en n,F_mode_Good.en n,F_entry_Rules.en n,F_entry_Grants.en n,F_meta_up_Object.en n,F_meta_up_Upload.en n,F_meta_every_Object.en n,F_meta_every_Upload.en n],0,[]⟩,55,bnOf 0 ia⟩
abbrev g1:List Si:=[.ref 0 500000 T_meta_census,.ref 3 3 T_api_Bucket,.box 3 (.d T_api_Bucket),.box 500000 (.p (.d T_api_State) (.p (.d (.int .i64)) (.p (.m 100000500000000 (.int .u64) .bool) (.d .unit))))]
abbrev g2:List Si:=[.ref 0 500000 T_meta_census,.ref 3 3 T_api_Bucket,.box 3 (.d T_api_Bucket),.box 500000 (.p (.d T_api_State) (.p (.d (.int .i64)) (.p (.m 100000500000000 (.int .u64) .bool) (.d .unit))))]
noncomputable def T:CT:=(.s .o (.s .o (.r g1 (.s .o (.r g2 .o)))))
noncomputable def J1 (n:Nat):D_api_Bucket×D_meta_census×Unit→Option R:=jR (X n) n T (bodyOf Tryz.f67) (endK ia io) g1 [1,1] []
noncomputable def J2 (n:Nat):D_api_Bucket×D_meta_census×Unit→Option R:=jR (X n) n T (bodyOf Tryz.f67) (endK ia io) g2 [1,1,1] []
noncomputable def f (n:Nat)(c:D_meta_census)(b:D_api_Bucket):Option R:=fRun (X n) n T Tryz.f67 ia io (c,b,())
theorem e0 (n:Nat) (c:D_meta_census) (b:D_api_Bucket):f n c b =
  bnd (F_label_Bucket.f n b.1) λu1=>
  bIf ((!u1.1)) (
    some (false,(c.1,(c.2.1,(c.2.2.1,c.2.2.2))),())
    ) (
    bnd (F_mode_Good.f n b.2.1) λu2=>
    bIf ((!u2.1)) (
      some (false,(c.1,(c.2.1,(c.2.2.1,c.2.2.2))),())
      ) (
      bnd (F_entry_Rules.f n b.2.2.1) λu3=>
      bIf ((!u3.1)) (
        some (false,(c.1,(c.2.1,(c.2.2.1,c.2.2.2))),())
        ) (
        bnd (F_entry_Grants.f n b.2.2.2.1) λu4=>
        bIf ((!u4.1)) (
          some (false,(c.1,(c.2.1,(c.2.2.1,c.2.2.2))),())
          ) (
          J1 n (b,(c.1,(c.2.1,(c.2.2.1,c.2.2.2))),())
          )
        )
      )
    ):=(hideF_eq _).trans (by kernel_rfl)
theorem e1 (n:Nat) (b:D_api_Bucket) (c:D_meta_census):J1 n (b,c,()) =
  bIf ((hide (decide (((b.2.2.2.2.2.1.length:Nat):Int)>(4:Int))))) (
    some (false,(c.1,(c.2.1,(c.2.2.1,c.2.2.2))),())
    ) (
    bnd (F_meta_up_Object.f n b.2.2.2.2.1) λu1=>
    bIf ((!u1.1)) (
      some (false,(c.1,(c.2.1,(c.2.2.1,c.2.2.2))),())
      ) (
      bnd (F_meta_up_Upload.f n b.2.2.2.2.2.1) λu2=>
      bIf ((!u2.1)) (
        some (false,(c.1,(c.2.1,(c.2.2.1,c.2.2.2))),())
        ) (
        J2 n (b,(c.1,(c.2.1,(c.2.2.1,c.2.2.2))),())
        )
      )
    ):=(hideF_eq _).trans (by kernel_rfl)
theorem e2 (n:Nat)(b:D_api_Bucket)(c:D_meta_census):J2 n (b,c,()) =
  bnd (F_meta_every_Object.f n b.2.2.2.2.1 (c.1,(c.2.1,(c.2.2.1,c.2.2.2)))) λu1=>
  bIf (u1.1) (
    bnd (F_meta_every_Upload.f n b.2.2.2.2.2.1 (u1.2.1.1,(u1.2.1.2.1,(u1.2.1.2.2.1,u1.2.1.2.2.2)))) λu2=>
    some (u2.1,(u2.2.1.1,(u2.2.1.2.1,(u2.2.1.2.2.1,u2.2.1.2.2.2))),())
    ) (
    some (false,(u1.2.1.1,(u1.2.1.2.1,(u1.2.1.2.2.1,u1.2.1.2.2.2))),())
    ):=(hideF_eq _).trans (by kernel_rfl)
theorem phi (n:Nat):∀ e∈(X n).c.Φ,EntryOk Tryz.prog e:=allE_cons (mkEntry_ok (F_label_Bucket.ok n)) (allE_cons (mkEntry_ok (F_mode_Good.ok n)) (allE_cons (mkEntry_ok (F_entry_Rules.ok n)) (allE_cons (mkEntry_ok (F_entry_Grants.ok n)) (allE_cons (mkEntry_ok (F_meta_up_Object.ok n)) (allE_cons (mkEntry_ok (F_meta_up_Upload.ok n)) (allE_cons (mkEntry_ok (F_meta_every_Object.ok n)) (allE_cons (mkEntry_ok (F_meta_every_Upload.ok n)) (allE_nil))))))))
theorem ok (n:Nat):FnOk Tryz.prog 67 ia io (fRun (X n) n T Tryz.f67 ia io):=tree_ok mixed tabIs (phi n) Tryz.func67 (by kernel_rfl) rfl
noncomputable def en (n:Nat):Entry:=mkEntry 67 ia io (fRun (X n) n T Tryz.f67 ia io)
end F_meta_census_bucket
end Go.Proofs.YtemhlkdingkjnaaGreatDoor
namespace Go.Proofs.YtemhlkdingkjnaaGreatDoor
open Go Go.Va Go.Proofs
namespace F_meta_every_Bucket_1
abbrev ia:List Ai:=[.dat T_api_Bucket,.fn (.cp (.bd 67)) [(.p (.d T_api_State) (.p (.d (.int .i64)) (.p (.m 0 (.int .u64) .bool) (.d .unit))))]]
abbrev io:List (Nat×Oi):=[(3,.dat .bool)]
abbrev R:Type:=DOut ia io
noncomputable def X (n:Nat):Ctx:=⟨⟨tab,[F_meta_census_bucket.en n],0,[]⟩,8,bnOf 0 ia⟩
noncomputable def T:CT := .o
noncomputable def f (n:Nat)(x_:D_api_Bucket)(t1c0:D_meta_census):Option R:=fRun (X n) n T Tryz.f100 ia io (x_,t1c0,())
theorem e0 (n:Nat)(x_:D_api_Bucket)(t1c0:D_meta_census):f n x_ t1c0 =
  bnd (F_meta_census_bucket.f n (t1c0.1,(t1c0.2.1,(t1c0.2.2.1,t1c0.2.2.2))) x_) λu1=>
  some ((!u1.1),(u1.2.1.1,(u1.2.1.2.1,(u1.2.1.2.2.1,u1.2.1.2.2.2))),()):=(hideF_eq _).trans (by kernel_rfl)
theorem phi (n:Nat):∀ e∈(X n).c.Φ,EntryOk Tryz.prog e:=allE_cons (mkEntry_ok (F_meta_census_bucket.ok n)) (allE_nil)
theorem ok (n:Nat):FnOk Tryz.prog 100 ia io (fRun (X n) n T Tryz.f100 ia io):=tree_ok mixed tabIs (phi n) Tryz.func100 (by kernel_rfl) rfl
noncomputable def en (n:Nat):Entry:=mkEntry 100 ia io (fRun (X n) n T Tryz.f100 ia io)
end F_meta_every_Bucket_1
end Go.Proofs.YtemhlkdingkjnaaGreatDoor
namespace Go.Proofs.YtemhlkdingkjnaaGreatDoor
open Go Go.Va Go.Proofs
namespace F_slices_IndexFunc_Bucket
abbrev ia:List Ai:=[.dat (.slice T_api_Bucket),.fn (.fn1 100 (.bd 67)) [(.p (.d T_api_State) (.p (.d (.int .i64)) (.p (.m 0 (.int .u64) .bool) (.d .unit))))]]
abbrev io:List (Nat×Oi):=[(4,.dat (.int .i64))]
abbrev R:Type:=DOut ia io
noncomputable def X (n:Nat):Ctx:=⟨⟨tab,[F_meta_every_Bucket_1.en n],0,[]⟩,19,bnOf 0 ia⟩
abbrev g1:List Si:=[.dat 0 (.slice T_api_Bucket),.clo 1 (.fn1 100 (.bd 67)) [(502000,T_meta_census,false)],.dat 7 (.int .i64),.dat 8 (.int .i64),.box 502000 (.p (.d T_api_State) (.p (.d (.int .i64)) (.p (.m 100000502000000 (.int .u64) .bool) (.d .unit))))]
abbrev g2:List Si:=[.box 502000 (.p (.d T_api_State) (.p (.d (.int .i64)) (.p (.m 100000502000000 (.int .u64) .bool) (.d .unit))))]
noncomputable def T:CT:=(.s .o (.s (.s .o (.b (.l g1 .o))) (.r g2 .o)))
noncomputable def J1 (n:Nat)(m:Nat):(List (D_api_Bucket))×Int×Int×D_meta_census×Unit→Option R:=jL (X n) n T (bodyOf Tryz.f160) (endK ia io) g1 [1,0,1,0] [] m
noncomputable def J2 (n:Nat):D_meta_census×Unit→Option R:=jR (X n) n T (bodyOf Tryz.f160) (endK ia io) g2 [1,1] []
noncomputable def f (n:Nat)(s_:List (D_api_Bucket))(fc0:D_meta_census):Option R:=fRun (X n) n T Tryz.f160 ia io (s_,fc0,())
theorem e0 (n:Nat)(s_:List (D_api_Bucket))(fc0:D_meta_census):f n s_ fc0 =
  J1 n n (s_,((s_.length:Nat):Int),0,(fc0.1,(fc0.2.1,(fc0.2.2.1,fc0.2.2.2))),()):=(hideF_eq _).trans (by kernel_rfl)
theorem e1 (n m:Nat) (s_:List (D_api_Bucket)) (t7:Int) (t8:Int) (b502000:D_meta_census):J1 n (m+1) (s_,t7,t8,b502000,()) =
  bIf ((hide (decide (t8<t7)))) (
    gIf (0≤t8∧t8<((s_.length:Nat):Int)) (
      bnd (F_meta_every_Bucket_1.f n (List.getD s_ t8.toNat (Va.dflt T_api_Bucket)) (b502000.1,(b502000.2.1,(b502000.2.2.1,b502000.2.2.2)))) λu1=>
      bIf (u1.1) (
        some (t8,(u1.2.1.1,(u1.2.1.2.1,(u1.2.1.2.2.1,u1.2.1.2.2.2))),())
        ) (
        J1 n m (s_,t7,(IntKind.i64.wrap (t8+(1:Int))),(u1.2.1.1,(u1.2.1.2.1,(u1.2.1.2.2.1,u1.2.1.2.2.2))),())
        )
      )
    ) (
    J2 n ((b502000.1,(b502000.2.1,(b502000.2.2.1,b502000.2.2.2))),())
    ):=(hideF_eq _).trans (by kernel_rfl)
theorem e2 (n:Nat)(b502000:D_meta_census):J2 n (b502000,()) =
  some ((-1),(b502000.1,(b502000.2.1,(b502000.2.2.1,b502000.2.2.2))),()):=(hideF_eq _).trans (by kernel_rfl)
theorem phi (n:Nat):∀ e∈(X n).c.Φ,EntryOk Tryz.prog e:=allE_cons (mkEntry_ok (F_meta_every_Bucket_1.ok n)) (allE_nil)
theorem ok (n:Nat):FnOk Tryz.prog 160 ia io (fRun (X n) n T Tryz.f160 ia io):=tree_ok mixed tabIs (phi n) Tryz.func160 (by kernel_rfl) rfl
noncomputable def en (n:Nat):Entry:=mkEntry 160 ia io (fRun (X n) n T Tryz.f160 ia io)
end F_slices_IndexFunc_Bucket
end Go.Proofs.YtemhlkdingkjnaaGreatDoor
namespace Go.Proofs.YtemhlkdingkjnaaGreatDoor
open Go Go.Va Go.Proofs
namespace F_slices_ContainsFunc_Bucket
abbrev ia:List Ai:=[.dat (.slice T_api_Bucket),.fn (.fn1 100 (.bd 67)) [(.p (.d T_api_State) (.p (.d (.int .i64)) (.p (.m 0 (.int .u64) .bool) (.d .unit))))]]
abbrev io:List (Nat×Oi):=[(4,.dat .bool)]
abbrev R:Type:=DOut ia io
noncomputable def X (n:Nat):Ctx:=⟨⟨tab,[F_slices_IndexFunc_Bucket.en n],0,[]⟩,9,bnOf 0 ia⟩
noncomputable def T:CT := .o
noncomputable def f (n:Nat)(s_:List (D_api_Bucket))(fc0:D_meta_census):Option R:=fRun (X n) n T Tryz.f99 ia io (s_,fc0,())
theorem e0 (n:Nat)(s_:List (D_api_Bucket))(fc0:D_meta_census):f n s_ fc0 =
  bnd (F_slices_IndexFunc_Bucket.f n s_ (fc0.1,(fc0.2.1,(fc0.2.2.1,fc0.2.2.2)))) λu1=>
  some ((hide (decide (u1.1≥(0:Int)))),(u1.2.1.1,(u1.2.1.2.1,(u1.2.1.2.2.1,u1.2.1.2.2.2))),()):=(hideF_eq _).trans (by kernel_rfl)
theorem phi (n:Nat):∀ e∈(X n).c.Φ,EntryOk Tryz.prog e:=allE_cons (mkEntry_ok (F_slices_IndexFunc_Bucket.ok n)) (allE_nil)
theorem ok (n:Nat):FnOk Tryz.prog 99 ia io (fRun (X n) n T Tryz.f99 ia io):=tree_ok mixed tabIs (phi n) Tryz.func99 (by kernel_rfl) rfl
noncomputable def en (n:Nat):Entry:=mkEntry 99 ia io (fRun (X n) n T Tryz.f99 ia io)
end F_slices_ContainsFunc_Bucket
end Go.Proofs.YtemhlkdingkjnaaGreatDoor
namespace Go.Proofs.YtemhlkdingkjnaaGreatDoor
open Go Go.Va Go.Proofs
namespace F_meta_every_Bucket
abbrev ia:List Ai:=[.dat (.slice T_api_Bucket),.fn (.bd 67) [(.p (.d T_api_State) (.p (.d (.int .i64)) (.p (.m 0 (.int .u64) .bool) (.d .unit))))]]
abbrev io:List (Nat×Oi):=[(4,.dat .bool)]
abbrev R:Type:=DOut ia io
noncomputable def X (n:Nat):Ctx:=⟨⟨tab,[F_slices_ContainsFunc_Bucket.en n],0,[6]⟩,9,bnOf 0 ia⟩
noncomputable def T:CT := .o
noncomputable def f (n:Nat)(list:List (D_api_Bucket))(goodc0:D_meta_census):Option R:=fRun (X n) n T Tryz.f66 ia io (list,goodc0,())
theorem e0 (n:Nat)(list:List (D_api_Bucket))(goodc0:D_meta_census):f n list goodc0 =
  bnd (F_slices_ContainsFunc_Bucket.f n list (goodc0.1,(goodc0.2.1,(goodc0.2.2.1,goodc0.2.2.2)))) λu1=>
  some ((!u1.1),(u1.2.1.1,(u1.2.1.2.1,(u1.2.1.2.2.1,u1.2.1.2.2.2))),()):=(hideF_eq _).trans (by kernel_rfl)
theorem phi (n:Nat):∀ e∈(X n).c.Φ,EntryOk Tryz.prog e:=allE_cons (mkEntry_ok (F_slices_ContainsFunc_Bucket.ok n)) (allE_nil)
theorem ok (n:Nat):FnOk Tryz.prog 66 ia io (fRun (X n) n T Tryz.f66 ia io):=tree_ok mixed tabIs (phi n) Tryz.func66 (by kernel_rfl) rfl
noncomputable def en (n:Nat):Entry:=mkEntry 66 ia io (fRun (X n) n T Tryz.f66 ia io)
end F_meta_every_Bucket
end Go.Proofs.YtemhlkdingkjnaaGreatDoor
namespace Go.Proofs.YtemhlkdingkjnaaGreatDoor
open Go Go.Va Go.Proofs
namespace F_meta_byName
abbrev ia:List Ai:=[.dat T_api_Bucket,.dat T_api_Bucket]
abbrev io:List (Nat×Oi):=[(4,.dat (.int .i64))]
abbrev R:Type:=DOut ia io
noncomputable def X (n:Nat):Ctx:=⟨⟨tab,[F_cmp_Compare_string.en n],0,[]⟩,10,bnOf 0 ia⟩
noncomputable def T:CT := .o
noncomputable def f (n:Nat)(a:D_api_Bucket)(b:D_api_Bucket):Option R:=fRun (X n) n T Tryz.f33 ia io (a,b,())
theorem e0 (n:Nat)(a:D_api_Bucket)(b:D_api_Bucket):f n a b =
  bnd (F_cmp_Compare_string.f n a.1 b.1) λu1=>
  some (u1.1,()):=(hideF_eq _).trans (by kernel_rfl)
theorem phi (n:Nat):∀ e∈(X n).c.Φ,EntryOk Tryz.prog e:=allE_cons (mkEntry_ok (F_cmp_Compare_string.ok n)) (allE_nil)
theorem ok (n:Nat):FnOk Tryz.prog 33 ia io (fRun (X n) n T Tryz.f33 ia io):=tree_ok mixed tabIs (phi n) Tryz.func33 (by kernel_rfl) rfl
noncomputable def en (n:Nat):Entry:=mkEntry 33 ia io (fRun (X n) n T Tryz.f33 ia io)
end F_meta_byName
end Go.Proofs.YtemhlkdingkjnaaGreatDoor
namespace Go.Proofs.YtemhlkdingkjnaaGreatDoor
open Go Go.Va Go.Proofs
namespace F_meta_up_Bucket
abbrev ia:List Ai:=[.dat (.slice T_api_Bucket),.fn (.fn 33) []]
abbrev io:List (Nat×Oi):=[(4,.dat .bool)]
abbrev R:Type:=DOut ia io
noncomputable def X (n:Nat):Ctx:=⟨⟨tab,[F_meta_byName.en n],0,[]⟩,24,bnOf 0 ia⟩
abbrev g1:List Si:=[.dat 0 (.slice T_api_Bucket),.clo 1 (.fn 33) [],.dat 5 (.int .i64)]
abbrev g2:List Si:=[]
noncomputable def T:CT:=(.s .o (.s (.s .o (.b (.l g1 .o))) (.r g2 .o)))
noncomputable def J1 (n:Nat)(m:Nat):(List (D_api_Bucket))×Int×Unit→Option R:=jL (X n) n T (bodyOf Tryz.f65) (endK ia io) g1 [1,0,1,0] [] m
noncomputable def J2 (n:Nat):Unit→Option R:=jR (X n) n T (bodyOf Tryz.f65) (endK ia io) g2 [1,1] []
noncomputable def f (n:Nat)(list:List (D_api_Bucket)):Option R:=fRun (X n) n T Tryz.f65 ia io (list,())
theorem e0 (n:Nat)(list:List (D_api_Bucket)):f n list =
  J1 n n (list,1,()):=(hideF_eq _).trans (by kernel_rfl)
theorem e1 (n m:Nat) (list:List (D_api_Bucket)) (i:Int):J1 n (m+1) (list,i,()) =
  bIf ((hide (decide (i<((list.length:Nat):Int))))) (
    gIf (0≤(IntKind.i64.wrap (i-(1:Int)))∧(IntKind.i64.wrap (i-(1:Int)))<((list.length:Nat):Int)) (
      gIf (0≤i∧i<((list.length:Nat):Int)) (
        bnd (F_meta_byName.f n (List.getD list ((IntKind.i64.wrap (i-(1:Int))).toNat) (Va.dflt T_api_Bucket)) (List.getD list i.toNat (Va.dflt T_api_Bucket))) λu1=>
        bIf ((hide (decide (u1.1≥(0:Int))))) (
          some (false,())
          ) (
          J1 n m (list,(IntKind.i64.wrap (i+(1:Int))),())
          )
        )
      )
    ) (
    J2 n (())
    ):=(hideF_eq _).trans (by kernel_rfl)
theorem e2 (n:Nat):J2 n (()) =
  some (true,()):=(hideF_eq _).trans (by kernel_rfl)
theorem phi (n:Nat):∀ e∈(X n).c.Φ,EntryOk Tryz.prog e:=allE_cons (mkEntry_ok (F_meta_byName.ok n)) (allE_nil)
theorem ok (n:Nat):FnOk Tryz.prog 65 ia io (fRun (X n) n T Tryz.f65 ia io):=tree_ok mixed tabIs (phi n) Tryz.func65 (by kernel_rfl) rfl
noncomputable def en (n:Nat):Entry:=mkEntry 65 ia io (fRun (X n) n T Tryz.f65 ia io)
end F_meta_up_Bucket
end Go.Proofs.YtemhlkdingkjnaaGreatDoor
namespace Go.Proofs.YtemhlkdingkjnaaGreatDoor
open Go Go.Va Go.Proofs
namespace F_meta_Sound
abbrev ia:List Ai:=[.dat T_api_State]
abbrev io:List (Nat×Oi):=[(2,.dat .bool)]
abbrev R:Type:=DOut ia io
noncomputable def X (n:Nat):Ctx:=⟨⟨tab,[F_when_Clamp.en n,F_meta_up_Bucket.en n,F_meta_every_Bucket.en n],0,[]⟩,56,bnOf 0 ia⟩
abbrev g1:List Si:=[.ref 1 1 T_api_State,.box 1 (.d T_api_State)]
abbrev g2:List Si:=[.ref 1 1 T_api_State,.box 1 (.d T_api_State)]
noncomputable def T:CT:=(.s .o (.s .o (.r g1 (.s .o (.r g2 .o)))))
noncomputable def J1 (n:Nat):D_api_State×Unit→Option R:=jR (X n) n T (bodyOf Tryz.f31) (endK ia io) g1 [1,1] []
noncomputable def J2 (n:Nat):D_api_State×Unit→Option R:=jR (X n) n T (bodyOf Tryz.f31) (endK ia io) g2 [1,1,1] []
noncomputable def f (n:Nat)(s_:D_api_State):Option R:=fRun (X n) n T Tryz.f31 ia io (s_,())
theorem e0 (n:Nat) (s_:D_api_State):f n s_ =
  bnd (F_when_Clamp.f n s_.1) λu1=>
  bIf ((hide (s_.1 != u1.1))) (
    some (false,())
    ) (
    bIf ((hide (decide (s_.2.1<(1:Int))))) (
      some (false,())
      ) (
      bIf ((hide (decide (s_.2.1>(4611686018427387904:Int))))) (
        some (false,())
        ) (
        bIf ((hide (decide (s_.2.2.1<(1:Int))))) (
          some (false,())
          ) (
          bIf ((hide (decide (s_.2.2.1>(4611686018427387904:Int))))) (
            some (false,())
            ) (
            J1 n (s_,())
            )
          )
        )
      )
    ):=(hideF_eq _).trans (by kernel_rfl)
theorem e1 (n:Nat)(s_:D_api_State):J1 n (s_,()) =
  bIf ((hide (decide (((s_.2.2.2.1.length:Nat):Int)>(16:Int))))) (
    some (false,())
    ) (
    bnd (F_meta_up_Bucket.f n s_.2.2.2.1) λu1=>
    bIf ((!u1.1)) (
      some (false,())
      ) (
      J2 n (s_,())
      )
    ):=(hideF_eq _).trans (by kernel_rfl)
theorem e2 (n:Nat)(s_:D_api_State):J2 n (s_,()) =
  bnd (F_meta_every_Bucket.f n s_.2.2.2.1 (s_,(0,([],())))) λu1=>
  bIf (u1.1) (
    some ((hide (decide (u1.2.1.2.1≤(256:Int)))),())
    ) (
    some (false,())
    ):=(hideF_eq _).trans (by kernel_rfl)
theorem phi (n:Nat):∀ e∈(X n).c.Φ,EntryOk Tryz.prog e:=allE_cons (mkEntry_ok (F_when_Clamp.ok n)) (allE_cons (mkEntry_ok (F_meta_up_Bucket.ok n)) (allE_cons (mkEntry_ok (F_meta_every_Bucket.ok n)) (allE_nil)))
theorem ok (n:Nat):FnOk Tryz.prog 31 ia io (fRun (X n) n T Tryz.f31 ia io):=tree_ok mixed tabIs (phi n) Tryz.func31 (by kernel_rfl) rfl
noncomputable def en (n:Nat):Entry:=mkEntry 31 ia io (fRun (X n) n T Tryz.f31 ia io)
end F_meta_Sound
end Go.Proofs.YtemhlkdingkjnaaGreatDoor
namespace Go.Proofs.YtemhlkdingkjnaaGreatDoor
open Go Go.Va Go.Proofs
namespace F_ref13_Rising
abbrev ia:List Ai:=[.dat (.slice T_api_Version)]
abbrev io:List (Nat×Oi):=[(2,.dat .bool)]
abbrev R:Type:=DOut ia io
noncomputable def X (n:Nat):Ctx:=⟨⟨tab,[F_ref13_Good.en n],0,[]⟩,46,bnOf 0 ia⟩
abbrev g1:List Si:=[.dat 0 (.slice T_api_Version),.dat 3 (.int .i64)]
abbrev g2:List Si:=[.dat 0 (.slice T_api_Version),.dat 3 (.int .i64)]
abbrev g3:List Si:=[]
noncomputable def T:CT:=(.s .o (.s (.s .o (.b (.l g1 (.s .o (.s .o (.r g2 .o)))))) (.r g3 .o)))
noncomputable def J1 (n:Nat)(m:Nat):(List (D_api_Version))×Int×Unit→Option R:=jL (X n) n T (bodyOf Tryz.f88) (endK ia io) g1 [1,0,1,0] [] m
noncomputable def J2 (n m1:Nat):(List (D_api_Version))×Int×Unit→Option R:=jR (X n) n T (bodyOf Tryz.f88) (endK ia io) g2 [1,0,1,0,0,1,1] [m1]
noncomputable def J3 (n:Nat):Unit→Option R:=jR (X n) n T (bodyOf Tryz.f88) (endK ia io) g3 [1,1] []
noncomputable def f (n:Nat)(l:List (D_api_Version)):Option R:=fRun (X n) n T Tryz.f88 ia io (l,())
theorem e0 (n:Nat)(l:List (D_api_Version)):f n l =
  J1 n n (l,0,()):=(hideF_eq _).trans (by kernel_rfl)
theorem e1 (n m : Nat) (l:List (D_api_Version)) (i:Int):J1 n (m+1) (l,i,()) =
  bIf ((hide (decide (i<((l.length:Nat):Int))))) (
    gIf (0≤i∧i<((l.length:Nat):Int)) (
      bnd (F_ref13_Good.f n (List.getD l i.toNat (Va.dflt T_api_Version))) λu1=>
      bIf ((!u1.1)) (
        some (false,())
        ) (
        bIf ((hide (decide (i>(0:Int))))) (
          gIf (0≤i∧i<((l.length:Nat):Int)) (
            gIf (0≤(IntKind.i64.wrap (i-(1:Int)))∧(IntKind.i64.wrap (i-(1:Int)))<((l.length:Nat):Int)) (
              bIf ((hide (decide (((List.getD l i.toNat (Va.dflt T_api_Version)).1)≤((List.getD l ((IntKind.i64.wrap (i-(1:Int))).toNat) (Va.dflt T_api_Version)).1))))) (
                some (false,())
                ) (
                gIf (0≤i∧i<((l.length:Nat):Int)) (
                  gIf (0≤(IntKind.i64.wrap (i-(1:Int)))∧(IntKind.i64.wrap (i-(1:Int)))<((l.length:Nat):Int)) (
                    bIf ((hide (decide ((((((((List.getD l i.toNat (Va.dflt T_api_Version)).2).2).2).2).2).1)<(((((((List.getD l ((IntKind.i64.wrap (i-(1:Int))).toNat) (Va.dflt T_api_Version)).2).2).2).2).2).1))))) (
                      some (false,())
                      ) (
                      J2 n m (l,i,())
                      )
                    )
                  )
                )
              )
            )
          ) (
          J2 n m (l,i,())
          )
        )
      )
    ) (
    J3 n (())
    ):=(hideF_eq _).trans (by kernel_rfl)
theorem e2 (n m1:Nat)(l:List (D_api_Version))(i:Int):J2 n m1 (l,i,()) =
  J1 n m1 (l,(IntKind.i64.wrap (i+(1:Int))),()):=(hideF_eq _).trans (by kernel_rfl)
theorem e3 (n:Nat):J3 n (()) =
  some (true,()):=(hideF_eq _).trans (by kernel_rfl)
theorem phi (n:Nat):∀ e∈(X n).c.Φ,EntryOk Tryz.prog e:=allE_cons (mkEntry_ok (F_ref13_Good.ok n)) (allE_nil)
theorem ok (n:Nat):FnOk Tryz.prog 88 ia io (fRun (X n) n T Tryz.f88 ia io):=tree_ok mixed tabIs (phi n) Tryz.func88 (by kernel_rfl) rfl
noncomputable def en (n:Nat):Entry:=mkEntry 88 ia io (fRun (X n) n T Tryz.f88 ia io)
end F_ref13_Rising
end Go.Proofs.YtemhlkdingkjnaaGreatDoor
namespace Go.Proofs.YtemhlkdingkjnaaGreatDoor
open Go Go.Va Go.Proofs
namespace F_ref13_Sound
abbrev ia:List Ai:=[.dat T_api_Object]
abbrev io:List (Nat×Oi):=[(2,.dat .bool)]
abbrev R:Type:=DOut ia io
noncomputable def X (n:Nat):Ctx:=⟨⟨tab,[F_ref06_Key.en n,F_ref13_Rising.en n],0,[]⟩,17,bnOf 0 ia⟩
noncomputable def T:CT := .o
noncomputable def f (n:Nat)(o:D_api_Object):Option R:=fRun (X n) n T Tryz.f47 ia io (o,())
theorem e0 (n:Nat)(o:D_api_Object):f n o =
  bnd (F_ref06_Key.f n o.1) λu1=>
  bIf (u1.1) (
    bIf ((hide (decide (((o.2.1.length:Nat):Int)≥(1:Int))))) (
      bnd (F_ref13_Rising.f n o.2.1) λu2=>
      some (u2.1,())
      ) (
      some (false,())
      )
    ) (
    some (false,())
    ):=(hideF_eq _).trans (by kernel_rfl)
theorem phi (n:Nat):∀ e∈(X n).c.Φ,EntryOk Tryz.prog e:=allE_cons (mkEntry_ok (F_ref06_Key.ok n)) (allE_cons (mkEntry_ok (F_ref13_Rising.ok n)) (allE_nil))
theorem ok (n:Nat):FnOk Tryz.prog 47 ia io (fRun (X n) n T Tryz.f47 ia io):=tree_ok mixed tabIs (phi n) Tryz.func47 (by kernel_rfl) rfl
noncomputable def en (n:Nat):Entry:=mkEntry 47 ia io (fRun (X n) n T Tryz.f47 ia io)
end F_ref13_Sound
end Go.Proofs.YtemhlkdingkjnaaGreatDoor
namespace Go.Proofs.YtemhlkdingkjnaaGreatDoor
open Go Go.Va Go.Proofs
namespace F_ref15_upload
abbrev ia:List Ai:=[.dat T_api_Upload,.dat (.int .u64)]
abbrev io:List (Nat×Oi):=[(4,.dat .bool)]
abbrev R:Type:=DOut ia io
noncomputable def X (n:Nat):Ctx:=⟨⟨tab,[F_ref08_Sound.en n,F_ref06_Key.en n,F_ref14_Part.en n],0,[]⟩,66,bnOf 0 ia⟩
abbrev g1:List Si:=[.dat 1 (.int .u64),.ref 2 2 T_api_Upload,.box 2 (.d T_api_Upload)]
abbrev g2:List Si:=[.dat 1 (.int .u64),.ref 2 2 T_api_Upload,.dat 5 (.int .i64),.box 2 (.d T_api_Upload)]
abbrev g3:List Si:=[.dat 1 (.int .u64),.ref 2 2 T_api_Upload,.dat 5 (.int .i64),.box 2 (.d T_api_Upload)]
abbrev g4:List Si:=[]
noncomputable def T:CT:=(.s .o (.s .o (.r g1 (.s (.s .o (.b (.l g2 (.s .o (.s .o (.r g3 .o)))))) (.r g4 .o)))))
noncomputable def J1 (n:Nat):Int×D_api_Upload×Unit→Option R:=jR (X n) n T (bodyOf Tryz.f48) (endK ia io) g1 [1,1] []
noncomputable def J2 (n:Nat)(m:Nat):Int×Int×D_api_Upload×Unit→Option R:=jL (X n) n T (bodyOf Tryz.f48) (endK ia io) g2 [1,1,0,1,0] [] m
noncomputable def J3 (n m2:Nat):Int×Int×D_api_Upload×Unit→Option R:=jR (X n) n T (bodyOf Tryz.f48) (endK ia io) g3 [1,1,0,1,0,0,1,1] [m2]
noncomputable def J4 (n:Nat):Unit→Option R:=jR (X n) n T (bodyOf Tryz.f48) (endK ia io) g4 [1,1,1] []
noncomputable def f (n:Nat)(u:D_api_Upload)(blobs:Int):Option R:=fRun (X n) n T Tryz.f48 ia io (u,blobs,())
theorem e0 (n:Nat) (u:D_api_Upload) (blobs:Int):f n u blobs =
  bnd (F_ref06_Key.f n u.2.1) λu1=>
  bIf ((!u1.1)) (
    some (false,())
    ) (
    bnd (F_ref08_Sound.f n u.2.2.1) λu2=>
    bIf ((!u2.1)) (
      some (false,())
      ) (
      bIf ((hide (decide (((u.2.2.2.1.length:Nat):Int)>(16:Int))))) (
        some (false,())
        ) (
        J1 n (blobs,u,())
        )
      )
    ):=(hideF_eq _).trans (by kernel_rfl)
theorem e1 (n:Nat)(blobs:Int)(u:D_api_Upload):J1 n (blobs,u,()) =
  J2 n n (blobs,0,u,()):=(hideF_eq _).trans (by kernel_rfl)
theorem e2 (n m : Nat) (blobs:Int) (i:Int) (u:D_api_Upload):J2 n (m+1) (blobs,i,u,()) =
  bIf ((hide (decide (i<((u.2.2.2.1.length:Nat):Int))))) (
    gIf (0≤i∧i<((u.2.2.2.1.length:Nat):Int)) (
      bnd (F_ref14_Part.f n (List.getD u.2.2.2.1 i.toNat (Va.dflt T_api_Part))) λu1=>
      bIf ((!u1.1)) (
        some (false,())
        ) (
        gIf (0≤i∧i<((u.2.2.2.1.length:Nat):Int)) (
          bIf ((hide (decide (((((List.getD u.2.2.2.1 i.toNat (Va.dflt T_api_Part)).2).2).1)≥blobs)))) (
            some (false,())
            ) (
            bIf ((hide (decide (i>(0:Int))))) (
              gIf (0≤(IntKind.i64.wrap (i-(1:Int)))∧(IntKind.i64.wrap (i-(1:Int)))<((u.2.2.2.1.length:Nat):Int)) (
                gIf (0≤i∧i<((u.2.2.2.1.length:Nat):Int)) (
                  bIf ((hide (decide (((List.getD u.2.2.2.1 ((IntKind.i64.wrap (i-(1:Int))).toNat) (Va.dflt T_api_Part)).1)≥((List.getD u.2.2.2.1 i.toNat (Va.dflt T_api_Part)).1))))) (
                    some (false,())
                    ) (
                    J3 n m (blobs,i,u,())
                    )
                  )
                )
              ) (
              J3 n m (blobs,i,u,())
              )
            )
          )
        )
      )
    ) (
    J4 n (())
    ):=(hideF_eq _).trans (by kernel_rfl)
theorem e3 (n m2:Nat)(blobs:Int)(i:Int)(u:D_api_Upload):J3 n m2 (blobs,i,u,()) =
  J2 n m2 (blobs,(IntKind.i64.wrap (i+(1:Int))),u,()):=(hideF_eq _).trans (by kernel_rfl)
theorem e4 (n:Nat):J4 n (()) =
  some (true,()):=(hideF_eq _).trans (by kernel_rfl)
theorem phi (n:Nat):∀ e∈(X n).c.Φ,EntryOk Tryz.prog e:=allE_cons (mkEntry_ok (F_ref08_Sound.ok n)) (allE_cons (mkEntry_ok (F_ref06_Key.ok n)) (allE_cons (mkEntry_ok (F_ref14_Part.ok n)) (allE_nil)))
theorem ok (n:Nat):FnOk Tryz.prog 48 ia io (fRun (X n) n T Tryz.f48 ia io):=tree_ok mixed tabIs (phi n) Tryz.func48 (by kernel_rfl) rfl
noncomputable def en (n:Nat):Entry:=mkEntry 48 ia io (fRun (X n) n T Tryz.f48 ia io)
end F_ref15_upload
end Go.Proofs.YtemhlkdingkjnaaGreatDoor
namespace Go.Proofs.YtemhlkdingkjnaaGreatDoor
open Go Go.Va Go.Proofs
namespace F_ref15_Sound
abbrev ia:List Ai:=[.dat T_api_State]
abbrev io:List (Nat×Oi):=[(2,.dat .bool)]
abbrev R:Type:=DOut ia io
noncomputable def X (n:Nat):Ctx:=⟨⟨tab,[F_ref05_Clamp.en n,F_ref06_Bucket.en n,F_ref12_Good.en n,F_ref14_Rules.en n,F_ref14_Grants.en n,F_ref13_Sound.en n,F_ref15_upload.en n],0,[]⟩,247,bnOf 0 ia⟩
abbrev g1:List Si:=[.ref 1 1 T_api_State,.box 1 (.d T_api_State)]
abbrev g2:List Si:=[.ref 1 1 T_api_State,.val 3 (.r 200300 (.int .u64)),.dat 4 (.int .i64),.dat 5 (.int .i64),.box 1 (.d T_api_State)]
abbrev g3:List Si:=[.ref 1 1 T_api_State,.val 3 (.r 200300 (.int .u64)),.dat 4 (.int .i64),.dat 5 (.int .i64),.ref 6 6 T_api_Bucket,.box 1 (.d T_api_State),.box 6 (.d T_api_Bucket)]
abbrev g4:List Si:=[.ref 1 1 T_api_State,.val 3 (.r 200300 (.int .u64)),.dat 4 (.int .i64),.dat 5 (.int .i64),.ref 6 6 T_api_Bucket,.dat 7 (.int .i64),.box 1 (.d T_api_State),.box 6 (.d T_api_Bucket)]
abbrev g5:List Si:=[.ref 1 1 T_api_State,.val 3 (.r 200300 (.int .u64)),.dat 4 (.int .i64),.dat 5 (.int .i64),.ref 6 6 T_api_Bucket,.dat 7 (.int .i64),.ref 8 8 T_api_Object,.box 1 (.d T_api_State),.box 6 (.d T_api_Bucket),.box 8 (.d T_api_Object)]
abbrev g6:List Si:=[.ref 1 1 T_api_State,.val 3 (.r 200300 (.int .u64)),.dat 4 (.int .i64),.dat 5 (.int .i64),.ref 6 6 T_api_Bucket,.dat 7 (.int .i64),.ref 8 8 T_api_Object,.dat 9 (.int .i64),.box 1 (.d T_api_State),.box 6 (.d T_api_Bucket),.box 8 (.d T_api_Object)]
abbrev g7:List Si:=[.ref 1 1 T_api_State,.val 3 (.r 200300 (.int .u64)),.dat 4 (.int .i64),.dat 5 (.int .i64),.ref 6 6 T_api_Bucket,.dat 7 (.int .i64),.ref 8 8 T_api_Object,.dat 9 (.int .i64),.ref 10 10 T_api_Version,.box 1 (.d T_api_State),.box 6 (.d T_api_Bucket),.box 8 (.d T_api_Object),.box 10 (.d T_api_Version)]
abbrev g8:List Si:=[.ref 1 1 T_api_State,.val 3 (.r 200300 (.int .u64)),.dat 4 (.int .i64),.dat 5 (.int .i64),.ref 6 6 T_api_Bucket,.dat 7 (.int .i64),.ref 8 8 T_api_Object,.dat 9 (.int .i64),.box 1 (.d T_api_State),.box 6 (.d T_api_Bucket),.box 8 (.d T_api_Object)]
abbrev g9:List Si:=[.ref 1 1 T_api_State,.val 3 (.r 200300 (.int .u64)),.dat 4 (.int .i64),.dat 5 (.int .i64),.ref 6 6 T_api_Bucket,.dat 7 (.int .i64),.box 1 (.d T_api_State),.box 6 (.d T_api_Bucket)]
abbrev g10:List Si:=[.ref 1 1 T_api_State,.val 3 (.r 200300 (.int .u64)),.dat 4 (.int .i64),.dat 5 (.int .i64),.ref 6 6 T_api_Bucket,.box 1 (.d T_api_State),.box 6 (.d T_api_Bucket)]
abbrev g11:List Si:=[.ref 1 1 T_api_State,.val 3 (.r 200300 (.int .u64)),.dat 4 (.int .i64),.dat 5 (.int .i64),.ref 6 6 T_api_Bucket,.dat 11 (.int .i64),.box 1 (.d T_api_State),.box 6 (.d T_api_Bucket)]
abbrev g12:List Si:=[.ref 1 1 T_api_State,.val 3 (.r 200300 (.int .u64)),.dat 4 (.int .i64),.dat 5 (.int .i64),.ref 6 6 T_api_Bucket,.dat 11 (.int .i64),.box 1 (.d T_api_State),.box 6 (.d T_api_Bucket)]
abbrev g13:List Si:=[.ref 1 1 T_api_State,.val 3 (.r 200300 (.int .u64)),.dat 4 (.int .i64),.dat 5 (.int .i64),.ref 6 6 T_api_Bucket,.dat 11 (.int .i64),.box 1 (.d T_api_State),.box 6 (.d T_api_Bucket)]
abbrev g14:List Si:=[.ref 1 1 T_api_State,.val 3 (.r 200300 (.int .u64)),.dat 4 (.int .i64),.dat 5 (.int .i64),.box 1 (.d T_api_State)]
abbrev g15:List Si:=[.ref 1 1 T_api_State,.val 3 (.r 200300 (.int .u64)),.box 1 (.d T_api_State)]
abbrev g16:List Si:=[.ref 1 1 T_api_State,.val 3 (.r 200300 (.int .u64)),.dat 12 (.int .i64),.box 1 (.d T_api_State)]
abbrev g17:List Si:=[.ref 1 1 T_api_State,.val 3 (.r 200300 (.int .u64)),.dat 12 (.int .i64),.box 1 (.d T_api_State)]
abbrev g18:List Si:=[.ref 1 1 T_api_State,.val 3 (.r 200300 (.int .u64)),.dat 12 (.int .i64),.dat 13 (.int .i64),.box 1 (.d T_api_State)]
abbrev g19:List Si:=[.ref 1 1 T_api_State,.val 3 (.r 200300 (.int .u64)),.dat 12 (.int .i64),.box 1 (.d T_api_State)]
abbrev g20:List Si:=[]
noncomputable def T:CT:=(.s .o (.s .o (.r g1 (.s .o (.s .o (.s (.s .o (.b (.l g2 (.s .o (.s (.b (.s .o (.s .o (.r g3 (.s (.s .o (.b (.l g4 (.s .o (.s (.b (.s .o (.s .o (.r g5 (.s .o (.s .o (.s .o (.b (.l g6 (.s .o (.s (.b (.s .o (.s .o (.r g7 .o)))) (.r g8 .o)))))))))))) (.r g9 .o)))))) (.r g10 (.s .o (.b (.l g11 (.s .o (.s (.b (.s .o (.s .o (.r g12 .o)))) (.r g13 .o)))))))))))) (.r g14 .o)))))) (.r g15 (.s (.s .o (.b (.l g16 (.s .o (.s (.b (.s .o (.r g17 (.s .o (.b (.l g18 .o)))))) (.r g19 .o)))))) (.r g20 .o)))))))))
noncomputable def J1 (n:Nat):D_api_State×Unit→Option R:=jR (X n) n T (bodyOf Tryz.f13) (endK ia io) g1 [1,1] []
noncomputable def J2 (n:Nat)(m:Nat):(List (Int))×Int×Int×D_api_State×Unit→Option R:=jL (X n) n T (bodyOf Tryz.f13) (endK ia io) g2 [1,1,1,1,0,1,0] [] m
noncomputable def J3 (n m2:Nat):(List (Int))×Int×Int×D_api_State×D_api_Bucket×Unit→Option R:=jR (X n) n T (bodyOf Tryz.f13) (endK ia io) g3 [1,1,1,1,0,1,0,0,1,0,0,1,1] [m2]
noncomputable def J4 (n m2:Nat)(m:Nat):(List (Int))×Int×Int×Int×D_api_State×D_api_Bucket×Unit→Option R:=jL (X n) n T (bodyOf Tryz.f13) (endK ia io) g4 [1,1,1,1,0,1,0,0,1,0,0,1,1,0,1,0] [m2] m
noncomputable def J5 (n m2 m4:Nat):(List (Int))×Int×Int×Int×D_api_State×D_api_Bucket×D_api_Object×Unit→Option R:=jR (X n) n T (bodyOf Tryz.f13) (endK ia io) g5 [1,1,1,1,0,1,0,0,1,0,0,1,1,0,1,0,0,1,0,0,1,1] [m2,m4]
noncomputable def J6 (n m2 m4:Nat)(m:Nat):(List (Int))×Int×Int×Int×Int×D_api_State×D_api_Bucket×D_api_Object×Unit→Option R:=jL (X n) n T (bodyOf Tryz.f13) (endK ia io) g6 [1,1,1,1,0,1,0,0,1,0,0,1,1,0,1,0,0,1,0,0,1,1,1,1,1,0] [m2,m4] m
noncomputable def J7 (n m2 m4 m6:Nat):(List (Int))×Int×Int×Int×Int×D_api_State×D_api_Bucket×D_api_Object×D_api_Version×Unit→Option R:=jR (X n) n T (bodyOf Tryz.f13) (endK ia io) g7 [1,1,1,1,0,1,0,0,1,0,0,1,1,0,1,0,0,1,0,0,1,1,1,1,1,0,0,1,0,0,1,1] [m2,m4,m6]
noncomputable def J8 (n m2 m4 m6:Nat):(List (Int))×Int×Int×Int×Int×D_api_State×D_api_Bucket×D_api_Object×Unit→Option R:=jR (X n) n T (bodyOf Tryz.f13) (endK ia io) g8 [1,1,1,1,0,1,0,0,1,0,0,1,1,0,1,0,0,1,0,0,1,1,1,1,1,0,0,1,1] [m2,m4,m6]
noncomputable def J9 (n m2 m4:Nat):(List (Int))×Int×Int×Int×D_api_State×D_api_Bucket×Unit→Option R:=jR (X n) n T (bodyOf Tryz.f13) (endK ia io) g9 [1,1,1,1,0,1,0,0,1,0,0,1,1,0,1,0,0,1,1] [m2,m4]
noncomputable def J10 (n m2:Nat):(List (Int))×Int×Int×D_api_State×D_api_Bucket×Unit→Option R:=jR (X n) n T (bodyOf Tryz.f13) (endK ia io) g10 [1,1,1,1,0,1,0,0,1,0,0,1,1,1] [m2]
noncomputable def J11 (n m2:Nat)(m:Nat):(List (Int))×Int×Int×Int×D_api_State×D_api_Bucket×Unit→Option R:=jL (X n) n T (bodyOf Tryz.f13) (endK ia io) g11 [1,1,1,1,0,1,0,0,1,0,0,1,1,1,1,0] [m2] m
noncomputable def J12 (n m2 m11:Nat):(List (Int))×Int×Int×Int×D_api_State×D_api_Bucket×Unit→Option R:=jR (X n) n T (bodyOf Tryz.f13) (endK ia io) g12 [1,1,1,1,0,1,0,0,1,0,0,1,1,1,1,0,0,1,0,0,1,1] [m2,m11]
noncomputable def J13 (n m2 m11:Nat):(List (Int))×Int×Int×Int×D_api_State×D_api_Bucket×Unit→Option R:=jR (X n) n T (bodyOf Tryz.f13) (endK ia io) g13 [1,1,1,1,0,1,0,0,1,0,0,1,1,1,1,0,0,1,1] [m2,m11]
noncomputable def J14 (n m2:Nat):(List (Int))×Int×Int×D_api_State×Unit→Option R:=jR (X n) n T (bodyOf Tryz.f13) (endK ia io) g14 [1,1,1,1,0,1,0,0,1,1] [m2]
noncomputable def J15 (n:Nat):(List (Int))×D_api_State×Unit→Option R:=jR (X n) n T (bodyOf Tryz.f13) (endK ia io) g15 [1,1,1,1,1] []
noncomputable def J16 (n:Nat)(m:Nat):(List (Int))×Int×D_api_State×Unit→Option R:=jL (X n) n T (bodyOf Tryz.f13) (endK ia io) g16 [1,1,1,1,1,0,1,0] [] m
noncomputable def J17 (n m16:Nat):(List (Int))×Int×D_api_State×Unit→Option R:=jR (X n) n T (bodyOf Tryz.f13) (endK ia io) g17 [1,1,1,1,1,0,1,0,0,1,0,0,1] [m16]
noncomputable def J18 (n m16:Nat)(m:Nat):(List (Int))×Int×Int×D_api_State×Unit→Option R:=jL (X n) n T (bodyOf Tryz.f13) (endK ia io) g18 [1,1,1,1,1,0,1,0,0,1,0,0,1,1,0] [m16] m
noncomputable def J19 (n m16:Nat):(List (Int))×Int×D_api_State×Unit→Option R:=jR (X n) n T (bodyOf Tryz.f13) (endK ia io) g19 [1,1,1,1,1,0,1,0,0,1,1] [m16]
noncomputable def J20 (n:Nat):Unit→Option R:=jR (X n) n T (bodyOf Tryz.f13) (endK ia io) g20 [1,1,1,1,1,1] []
noncomputable def f (n:Nat)(t:D_api_State):Option R:=fRun (X n) n T Tryz.f13 ia io (t,())
theorem e0 (n : Nat) (t:D_api_State):f n t =
  bnd (F_ref05_Clamp.f n t.1) λu1=>
  bIf ((hide (u1.1 != t.1))) (
    some (false,())
    ) (
    bIf ((hide (decide (t.2.1<(1:Int))))) (
      some (false,())
      ) (
      bIf ((hide (decide (t.2.1>(4611686018427387904:Int))))) (
        some (false,())
        ) (
        bIf ((hide (decide (t.2.2.1<(1:Int))))) (
          some (false,())
          ) (
          bIf ((hide (decide (t.2.2.1>(4611686018427387904:Int))))) (
            some (false,())
            ) (
            bIf ((hide (decide (((t.2.2.2.1.length:Nat):Int)>(16:Int))))) (
              some (false,())
              ) (
              J1 n (t,())
              )
            )
          )
        )
      )
    ):=(hideF_eq _).trans (by kernel_rfl)
theorem e1 (n:Nat)(o:D_api_State):J1 n (o,()) =
  J2 n n (([]:List (Int)),0,0,o,()):=(hideF_eq _).trans (by kernel_rfl)
theorem e2 (n m : Nat) (r:List (Int)) (r':Int) (a:Int) (o:D_api_State):J2 n (m+1) (r,r',a,o,()) =
  bIf ((hide (decide (a<((o.2.2.2.1.length:Nat):Int))))) (
    gIf (0≤a∧a<((o.2.2.2.1.length:Nat):Int)) (
      bnd (F_ref06_Bucket.f n ((List.getD o.2.2.2.1 a.toNat (Va.dflt T_api_Bucket)).1)) λu1=>
      bIf ((!u1.1)) (
        some (false,())
        ) (
        bIf ((hide (decide (a>(0:Int))))) (
          gIf (0≤(IntKind.i64.wrap (a-(1:Int)))∧(IntKind.i64.wrap (a-(1:Int)))<((o.2.2.2.1.length:Nat):Int)) (
            bIf ((hide (!ltS ((List.getD o.2.2.2.1 ((IntKind.i64.wrap (a-(1:Int))).toNat) (Va.dflt T_api_Bucket)).1) ((List.getD o.2.2.2.1 a.toNat (Va.dflt T_api_Bucket)).1)))) (
              some (false,())
              ) (
              bnd (F_ref12_Good.f n (((List.getD o.2.2.2.1 a.toNat (Va.dflt T_api_Bucket)).2).1)) λu2=>
              bIf ((!u2.1)) (
                some (false,())
                ) (
                bnd (F_ref14_Rules.f n ((((List.getD o.2.2.2.1 a.toNat (Va.dflt T_api_Bucket)).2).2).1)) λu3=>
                bIf ((!u3.1)) (
                  some (false,())
                  ) (
                  bnd (F_ref14_Grants.f n (((((List.getD o.2.2.2.1 a.toNat (Va.dflt T_api_Bucket)).2).2).2).1)) λu4=>
                  bIf ((!u4.1)) (
                    some (false,())
                    ) (
                    bIf ((hide (decide ((((((((((List.getD o.2.2.2.1 a.toNat (Va.dflt T_api_Bucket)).2).2).2).2).2).1).length:Nat):Int)>(4:Int))))) (
                      some (false,())
                      ) (
                      J3 n m (r,r',a,o,(List.getD o.2.2.2.1 a.toNat (Va.dflt T_api_Bucket)),())
                      )
                    )
                  )
                )
              )
            )
          ) (
          bnd (F_ref12_Good.f n (((List.getD o.2.2.2.1 a.toNat (Va.dflt T_api_Bucket)).2).1)) λu5=>
          bIf ((!u5.1)) (
            some (false,())
            ) (
            bnd (F_ref14_Rules.f n ((((List.getD o.2.2.2.1 a.toNat (Va.dflt T_api_Bucket)).2).2).1)) λu6=>
            bIf ((!u6.1)) (
              some (false,())
              ) (
              bnd (F_ref14_Grants.f n (((((List.getD o.2.2.2.1 a.toNat (Va.dflt T_api_Bucket)).2).2).2).1)) λu7=>
              bIf ((!u7.1)) (
                some (false,())
                ) (
                bIf ((hide (decide ((((((((((List.getD o.2.2.2.1 a.toNat (Va.dflt T_api_Bucket)).2).2).2).2).2).1).length:Nat):Int)>(4:Int))))) (
                  some (false,())
                  ) (
                  J3 n m (r,r',a,o,(List.getD o.2.2.2.1 a.toNat (Va.dflt T_api_Bucket)),())
                  )
                )
              )
            )
          )
        )
      )
    ) (
    J15 n (r,o,())
    ):=(hideF_eq _).trans (by kernel_rfl)
theorem e3 (n m2:Nat)(r:List (Int))(r':Int)(a:Int)(o:D_api_State)(y_:D_api_Bucket):J3 n m2 (r,r',a,o,y_,()) =
  J4 n m2 n (r,r',a,0,o,y_,()):=(hideF_eq _).trans (by kernel_rfl)
theorem e4 (n m2 m:Nat) (r:List (Int)) (r':Int) (a:Int) (t7:Int) (o:D_api_State) (y_:D_api_Bucket):J4 n m2 (m+1) (r,r',a,t7,o,y_,()) =
  bIf ((hide (decide (t7<((y_.2.2.2.2.1.length:Nat):Int))))) (
    gIf (0≤t7∧t7<((y_.2.2.2.2.1.length:Nat):Int)) (
      bnd (F_ref13_Sound.f n (List.getD y_.2.2.2.2.1 t7.toNat (Va.dflt T_api_Object))) λu1=>
      bIf ((!u1.1)) (
        some (false,())
        ) (
        bIf ((hide (decide (t7>(0:Int))))) (
          gIf (0≤(IntKind.i64.wrap (t7-(1:Int)))∧(IntKind.i64.wrap (t7-(1:Int)))<((y_.2.2.2.2.1.length:Nat):Int)) (
            bIf ((hide (!ltS ((List.getD y_.2.2.2.2.1 ((IntKind.i64.wrap (t7-(1:Int))).toNat) (Va.dflt T_api_Object)).1) ((List.getD y_.2.2.2.2.1 t7.toNat (Va.dflt T_api_Object)).1)))) (
              some (false,())
              ) (
              J5 n m2 m (r,r',a,t7,o,y_,(List.getD y_.2.2.2.2.1 t7.toNat (Va.dflt T_api_Object)),())
              )
            )
          ) (
          J5 n m2 m (r,r',a,t7,o,y_,(List.getD y_.2.2.2.2.1 t7.toNat (Va.dflt T_api_Object)),())
          )
        )
      )
    ) (
    J10 n m2 (r,r',a,o,y_,())
    ):=(hideF_eq _).trans (by kernel_rfl)
theorem e5 (n m2 m4:Nat)(r:List (Int))(r':Int)(a:Int)(t7:Int)(o:D_api_State)(y_:D_api_Bucket)(b8:D_api_Object):J5 n m2 m4 (r,r',a,t7,o,y_,b8,()) =
  bIf ((hide (decide ((IntKind.i64.wrap (r'+((b8.2.1.length:Nat):Int)))>(256:Int))))) (
    some (false,())
    ) (
    J6 n m2 m4 n (r,(IntKind.i64.wrap (r'+((b8.2.1.length:Nat):Int))),a,t7,0,o,y_,b8,())
    ):=(hideF_eq _).trans (by kernel_rfl)
theorem e6 (n m2 m4 m:Nat) (r:List (Int)) (r':Int) (a:Int) (t7:Int) (t9:Int) (o:D_api_State) (y_:D_api_Bucket) (b8:D_api_Object):J6 n m2 m4 (m+1) (r,r',a,t7,t9,o,y_,b8,()) =
  bIf ((hide (decide (t9<((b8.2.1.length:Nat):Int))))) (
    gIf (0≤t9∧t9<((b8.2.1.length:Nat):Int)) (
      bIf ((hide (decide ((((((((List.getD b8.2.1 t9.toNat (Va.dflt T_api_Version)).2).2).2).2).2).1)>o.1)))) (
        some (false,())
        ) (
        bIf ((hide (decide ((((((List.getD b8.2.1 t9.toNat (Va.dflt T_api_Version)).2).2).2).1)≥o.2.2.1)))) (
          some (false,())
          ) (
          J7 n m2 m4 m (r,r',a,t7,t9,o,y_,b8,(List.getD b8.2.1 t9.toNat (Va.dflt T_api_Version)),())
          )
        )
      )
    ) (
    J9 n m2 m4 (r,r',a,t7,o,y_,())
    ):=(hideF_eq _).trans (by kernel_rfl)
theorem e7 (n m2 m4 m6:Nat)(r:List (Int))(r':Int)(a:Int)(t7:Int)(t9:Int)(o:D_api_State)(y_:D_api_Bucket)(b8:D_api_Object)(b10:D_api_Version):J7 n m2 m4 m6 (r,r',a,t7,t9,o,y_,b8,b10,()) =
  gIf ((r.length+1)*8≤70368744177664) (
    J8 n m2 m4 m6 ((r++([b10.1]:List (Int))),r',a,t7,t9,o,y_,b8,())
    ):=(hideF_eq _).trans (by kernel_rfl)
theorem e8 (n m2 m4 m6:Nat)(r:List (Int))(r':Int)(a:Int)(t7:Int)(t9:Int)(o:D_api_State)(y_:D_api_Bucket)(b8:D_api_Object):J8 n m2 m4 m6 (r,r',a,t7,t9,o,y_,b8,()) =
  J6 n m2 m4 m6 (r,r',a,t7,(IntKind.i64.wrap (t9+(1:Int))),o,y_,b8,()):=(hideF_eq _).trans (by kernel_rfl)
theorem e9 (n m2 m4:Nat)(r:List (Int))(r':Int)(a:Int)(t7:Int)(o:D_api_State)(y_:D_api_Bucket):J9 n m2 m4 (r,r',a,t7,o,y_,()) =
  J4 n m2 m4 (r,r',a,(IntKind.i64.wrap (t7+(1:Int))),o,y_,()):=(hideF_eq _).trans (by kernel_rfl)
theorem e10 (n m2:Nat)(r:List (Int))(r':Int)(a:Int)(o:D_api_State)(y_:D_api_Bucket):J10 n m2 (r,r',a,o,y_,()) =
  J11 n m2 n (r,r',a,0,o,y_,()):=(hideF_eq _).trans (by kernel_rfl)
theorem e11 (n m2 m:Nat) (r:List (Int)) (r':Int) (a:Int) (t11:Int) (o:D_api_State) (y_:D_api_Bucket):J11 n m2 (m+1) (r,r',a,t11,o,y_,()) =
  bIf ((hide (decide (t11<((y_.2.2.2.2.2.1.length:Nat):Int))))) (
    gIf (0≤t11∧t11<((y_.2.2.2.2.2.1.length:Nat):Int)) (
      bnd (F_ref15_upload.f n (List.getD y_.2.2.2.2.2.1 t11.toNat (Va.dflt T_api_Upload)) o.2.2.1) λu1=>
      bIf ((!u1.1)) (
        some (false,())
        ) (
        bIf ((hide (decide (t11>(0:Int))))) (
          gIf (0≤(IntKind.i64.wrap (t11-(1:Int)))∧(IntKind.i64.wrap (t11-(1:Int)))<((y_.2.2.2.2.2.1.length:Nat):Int)) (
            gIf (0≤t11∧t11<((y_.2.2.2.2.2.1.length:Nat):Int)) (
              bIf ((hide (decide (((List.getD y_.2.2.2.2.2.1 ((IntKind.i64.wrap (t11-(1:Int))).toNat) (Va.dflt T_api_Upload)).1)≥((List.getD y_.2.2.2.2.2.1 t11.toNat (Va.dflt T_api_Upload)).1))))) (
                some (false,())
                ) (
                J12 n m2 m (r,r',a,t11,o,y_,())
                )
              )
            )
          ) (
          J12 n m2 m (r,r',a,t11,o,y_,())
          )
        )
      )
    ) (
    J14 n m2 (r,r',a,o,())
    ):=(hideF_eq _).trans (by kernel_rfl)
theorem e12 (n m2 m11:Nat)(r:List (Int))(r':Int)(a:Int)(t11:Int)(o:D_api_State)(y_:D_api_Bucket):J12 n m2 m11 (r,r',a,t11,o,y_,()) =
  gIf (0≤t11∧t11<((y_.2.2.2.2.2.1.length:Nat):Int)) (
    gIf ((r.length+1)*8≤70368744177664) (
      J13 n m2 m11 ((r++([(List.getD y_.2.2.2.2.2.1 t11.toNat (Va.dflt T_api_Upload)).1]:List (Int))),r',a,t11,o,y_,())
      )
    ):=(hideF_eq _).trans (by kernel_rfl)
theorem e13 (n m2 m11:Nat)(r:List (Int))(r':Int)(a:Int)(t11:Int)(o:D_api_State)(y_:D_api_Bucket):J13 n m2 m11 (r,r',a,t11,o,y_,()) =
  J11 n m2 m11 (r,r',a,(IntKind.i64.wrap (t11+(1:Int))),o,y_,()):=(hideF_eq _).trans (by kernel_rfl)
theorem e14 (n m2:Nat)(r:List (Int))(r':Int)(a:Int)(o:D_api_State):J14 n m2 (r,r',a,o,()) =
  J2 n m2 (r,r',(IntKind.i64.wrap (a+(1:Int))),o,()):=(hideF_eq _).trans (by kernel_rfl)
theorem e15 (n:Nat)(r:List (Int))(o:D_api_State):J15 n (r,o,()) =
  J16 n n (r,0,o,()):=(hideF_eq _).trans (by kernel_rfl)
theorem e16 (n m:Nat) (r:List (Int)) (t12:Int) (o:D_api_State):J16 n (m+1) (r,t12,o,()) =
  bIf ((hide (decide (t12<((r.length:Nat):Int))))) (
    gIf (0≤t12∧t12<((r.length:Nat):Int)) (
      bIf ((hide (decide ((List.getD r (0+t12.toNat) 0)<(1:Int))))) (
        some (false,())
        ) (
        gIf (0≤t12∧t12<((r.length:Nat):Int)) (
          bIf ((hide (decide ((List.getD r (0+t12.toNat) 0)≥o.2.1)))) (
            some (false,())
            ) (
            J17 n m (r,t12,o,())
            )
          )
        )
      )
    ) (
    J20 n (())
    ):=(hideF_eq _).trans (by kernel_rfl)
theorem e17 (n m16:Nat)(r:List (Int))(t12:Int)(o:D_api_State):J17 n m16 (r,t12,o,()) =
  J18 n m16 n (r,t12,0,o,()):=(hideF_eq _).trans (by kernel_rfl)
theorem e18 (n m16 m:Nat) (r:List (Int)) (t12:Int) (t13:Int) (o:D_api_State):J18 n m16 (m+1) (r,t12,t13,o,()) =
  bIf ((hide (decide (t13<t12)))) (
    gIf (0≤t13∧t13<((r.length:Nat):Int)) (
      gIf (0≤t12∧t12<((r.length:Nat):Int)) (
        bIf ((hide ((List.getD r (0+t13.toNat) 0)==(List.getD r (0+t12.toNat) 0)))) (
          some (false,())
          ) (
          J18 n m16 m (r,t12,(IntKind.i64.wrap (t13+(1:Int))),o,())
          )
        )
      )
    ) (
    J19 n m16 (r,t12,o,())
    ):=(hideF_eq _).trans (by kernel_rfl)
theorem e19 (n m16:Nat)(r:List (Int))(t12:Int)(o:D_api_State):J19 n m16 (r,t12,o,()) =
  J16 n m16 (r,(IntKind.i64.wrap (t12+(1:Int))),o,()):=(hideF_eq _).trans (by kernel_rfl)
theorem e20 (n:Nat):J20 n (()) =
  some (true,()):=(hideF_eq _).trans (by kernel_rfl)
theorem phi (n:Nat):∀ e∈(X n).c.Φ,EntryOk Tryz.prog e:=allE_cons (mkEntry_ok (F_ref05_Clamp.ok n)) (allE_cons (mkEntry_ok (F_ref06_Bucket.ok n)) (allE_cons (mkEntry_ok (F_ref12_Good.ok n)) (allE_cons (mkEntry_ok (F_ref14_Rules.ok n)) (allE_cons (mkEntry_ok (F_ref14_Grants.ok n)) (allE_cons (mkEntry_ok (F_ref13_Sound.ok n)) (allE_cons (mkEntry_ok (F_ref15_upload.ok n)) (allE_nil)))))))
theorem ok (n:Nat):FnOk Tryz.prog 13 ia io (fRun (X n) n T Tryz.f13 ia io):=tree_ok mixed tabIs (phi n) Tryz.func13 (by kernel_rfl) rfl
noncomputable def en (n:Nat):Entry:=mkEntry 13 ia io (fRun (X n) n T Tryz.f13 ia io)
end F_ref15_Sound
end Go.Proofs.YtemhlkdingkjnaaGreatDoor
namespace Go.Proofs.YtemhlkdingkjnaaGreatDoor
open Go Go.Va Go.Proofs
namespace F_count_all
abbrev ia:List Ai:=[.dat T_api_State]
abbrev io:List (Nat×Oi):=[(2,.val (.r 0 T_count_says))]
abbrev R:Type:=DOut ia io
noncomputable def X (n:Nat):Ctx:=⟨⟨tab,[F_meta_Sound.en n],0,[]⟩,81,bnOf 0 ia⟩
abbrev g1:List Si:=[.val 3 (.r 200300 T_count_says),.dat 18 (.slice T_api_Bucket),.dat 19 (.int .i64),.dat 20 (.int .i64)]
abbrev g2:List Si:=[.val 3 (.r 200300 T_count_says),.ref 5 5 T_api_Bucket,.dat 18 (.slice T_api_Bucket),.dat 19 (.int .i64),.dat 20 (.int .i64),.dat 25 (.slice T_api_Object),.dat 26 (.int .i64),.dat 27 (.int .i64),.box 5 (.d T_api_Bucket)]
abbrev g3:List Si:=[.val 3 (.r 200300 T_count_says),.ref 5 5 T_api_Bucket,.dat 18 (.slice T_api_Bucket),.dat 19 (.int .i64),.dat 20 (.int .i64),.dat 25 (.slice T_api_Object),.dat 26 (.int .i64),.dat 27 (.int .i64),.dat 32 (.slice T_api_Version),.dat 33 (.int .i64),.dat 34 (.int .i64),.box 5 (.d T_api_Bucket)]
abbrev g4:List Si:=[.val 3 (.r 200300 T_count_says),.ref 5 5 T_api_Bucket,.dat 18 (.slice T_api_Bucket),.dat 19 (.int .i64),.dat 20 (.int .i64),.dat 25 (.slice T_api_Object),.dat 26 (.int .i64),.dat 27 (.int .i64),.box 5 (.d T_api_Bucket)]
abbrev g5:List Si:=[.val 3 (.r 200300 T_count_says),.ref 5 5 T_api_Bucket,.dat 18 (.slice T_api_Bucket),.dat 19 (.int .i64),.dat 20 (.int .i64),.box 5 (.d T_api_Bucket)]
abbrev g6:List Si:=[.val 3 (.r 200300 T_count_says),.dat 18 (.slice T_api_Bucket),.dat 19 (.int .i64),.dat 20 (.int .i64),.dat 54 (.slice T_api_Upload),.dat 55 (.int .i64),.dat 56 (.int .i64)]
abbrev g7:List Si:=[.val 3 (.r 200300 T_count_says),.dat 18 (.slice T_api_Bucket),.dat 19 (.int .i64),.dat 20 (.int .i64),.dat 54 (.slice T_api_Upload),.dat 55 (.int .i64),.dat 56 (.int .i64),.dat 61 (.slice T_api_Part),.dat 62 (.int .i64),.dat 63 (.int .i64)]
abbrev g8:List Si:=[.val 3 (.r 200300 T_count_says),.dat 18 (.slice T_api_Bucket),.dat 19 (.int .i64),.dat 20 (.int .i64),.dat 54 (.slice T_api_Upload),.dat 55 (.int .i64),.dat 56 (.int .i64)]
abbrev g9:List Si:=[.val 3 (.r 200300 T_count_says),.dat 18 (.slice T_api_Bucket),.dat 19 (.int .i64),.dat 20 (.int .i64)]
abbrev g10:List Si:=[.val 3 (.r 200300 T_count_says)]
noncomputable def T:CT:=(.s .o (.s .o (.s .o (.s (.s .o (.b (.l g1 (.s .o (.s .o (.s (.b (.s .o (.s (.s .o (.b (.l g2 (.s .o (.s .o (.s (.b (.s .o (.s .o (.b (.l g3 .o))))) (.r g4 .o))))))) (.r g5 (.s .o (.b (.l g6 (.s .o (.s .o (.s (.b (.s .o (.s .o (.b (.l g7 .o))))) (.r g8 .o))))))))))) (.r g9 .o))))))) (.r g10 .o)))))
noncomputable def J1 (n:Nat)(m:Nat):(List (D_count_says))×(List (D_api_Bucket))×Int×Int×Unit→Option R:=jL (X n) n T (bodyOf Tryz.f53) (endK ia io) g1 [1,1,1,0,1,0] [] m
noncomputable def J2 (n m1:Nat)(m:Nat):(List (D_count_says))×(List (D_api_Bucket))×Int×Int×(List (D_api_Object))×Int×Int×D_api_Bucket×Unit→Option R:=jL (X n) n T (bodyOf Tryz.f53) (endK ia io) g2 [1,1,1,0,1,0,0,1,1,0,0,1,0,1,0] [m1] m
noncomputable def J3 (n m1 m2:Nat)(m:Nat):(List (D_count_says))×(List (D_api_Bucket))×Int×Int×(List (D_api_Object))×Int×Int×(List (D_api_Version))×Int×Int×D_api_Bucket×Unit→Option R:=jL (X n) n T (bodyOf Tryz.f53) (endK ia io) g3 [1,1,1,0,1,0,0,1,1,0,0,1,0,1,0,0,1,1,0,0,1,1,0] [m1,m2] m
noncomputable def J4 (n m1 m2:Nat):(List (D_count_says))×(List (D_api_Bucket))×Int×Int×(List (D_api_Object))×Int×Int×D_api_Bucket×Unit→Option R:=jR (X n) n T (bodyOf Tryz.f53) (endK ia io) g4 [1,1,1,0,1,0,0,1,1,0,0,1,0,1,0,0,1,1,1] [m1,m2]
noncomputable def J5 (n m1:Nat):(List (D_count_says))×(List (D_api_Bucket))×Int×Int×D_api_Bucket×Unit→Option R:=jR (X n) n T (bodyOf Tryz.f53) (endK ia io) g5 [1,1,1,0,1,0,0,1,1,0,0,1,1] [m1]
noncomputable def J6 (n m1:Nat)(m:Nat):(List (D_count_says))×(List (D_api_Bucket))×Int×Int×(List (D_api_Upload))×Int×Int×Unit→Option R:=jL (X n) n T (bodyOf Tryz.f53) (endK ia io) g6 [1,1,1,0,1,0,0,1,1,0,0,1,1,1,0] [m1] m
noncomputable def J7 (n m1 m6:Nat)(m:Nat):(List (D_count_says))×(List (D_api_Bucket))×Int×Int×(List (D_api_Upload))×Int×Int×(List (D_api_Part))×Int×Int×Unit→Option R:=jL (X n) n T (bodyOf Tryz.f53) (endK ia io) g7 [1,1,1,0,1,0,0,1,1,0,0,1,1,1,0,0,1,1,0,0,1,1,0] [m1,m6] m
noncomputable def J8 (n m1 m6:Nat):(List (D_count_says))×(List (D_api_Bucket))×Int×Int×(List (D_api_Upload))×Int×Int×Unit→Option R:=jR (X n) n T (bodyOf Tryz.f53) (endK ia io) g8 [1,1,1,0,1,0,0,1,1,0,0,1,1,1,0,0,1,1,1] [m1,m6]
noncomputable def J9 (n m1:Nat):(List (D_count_says))×(List (D_api_Bucket))×Int×Int×Unit→Option R:=jR (X n) n T (bodyOf Tryz.f53) (endK ia io) g9 [1,1,1,0,1,0,0,1,1,1] [m1]
noncomputable def J10 (n:Nat):(List (D_count_says))×Unit→Option R:=jR (X n) n T (bodyOf Tryz.f53) (endK ia io) g10 [1,1,1,1] []
noncomputable def f (n:Nat)(s_:D_api_State):Option R:=fRun (X n) n T Tryz.f53 ia io (s_,())
theorem e0 (n:Nat)(s_:D_api_State):f n s_ =
  bnd (F_meta_Sound.f n s_) λu1=>
  bIf ((!u1.1)) (
    some ([],())
    ) (
    J1 n n ([],s_.2.2.2.1,((s_.2.2.2.1.length:Nat):Int),0,())
    ):=(hideF_eq _).trans (by kernel_rfl)
theorem e1 (n m:Nat)(out:List (D_count_says))(t18:List (D_api_Bucket))(t19:Int)(t20:Int):J1 n (m+1) (out,t18,t19,t20,()) =
  bIf ((hide (decide (t20<t19)))) (
    gIf (0≤t20∧t20<((t18.length:Nat):Int)) (
      J2 n m n (out,t18,t19,t20,(((((List.getD t18 t20.toNat (Va.dflt T_api_Bucket)).2).2).2).2).1,((((((((List.getD t18 t20.toNat (Va.dflt T_api_Bucket)).2).2).2).2).1).length:Nat):Int),0,(List.getD t18 t20.toNat (Va.dflt T_api_Bucket)),())
      )
    ) (
    J10 n (out,())
    ):=(hideF_eq _).trans (by kernel_rfl)
theorem e2 (n m1 m:Nat)(out:List (D_count_says))(t18:List (D_api_Bucket))(t19:Int)(t20:Int)(t25:List (D_api_Object))(t26:Int)(t27:Int)(b:D_api_Bucket):J2 n m1 (m+1) (out,t18,t19,t20,t25,t26,t27,b,()) =
  bIf ((hide (decide (t27<t26)))) (
    gIf (0≤t27∧t27<((t25.length:Nat):Int)) (
      J3 n m1 m n (out,t18,t19,t20,t25,t26,t27,((List.getD t25 t27.toNat (Va.dflt T_api_Object)).2).1,(((((List.getD t25 t27.toNat (Va.dflt T_api_Object)).2).1).length:Nat):Int),0,b,())
      )
    ) (
    J5 n m1 (out,t18,t19,t20,b,())
    ):=(hideF_eq _).trans (by kernel_rfl)
theorem e3 (n m1 m2 m:Nat) (out:List (D_count_says)) (t18:List (D_api_Bucket)) (t19:Int) (t20:Int) (t25:List (D_api_Object)) (t26:Int) (t27:Int) (t32:List (D_api_Version)) (t33:Int) (t34:Int) (b:D_api_Bucket):J3 n m1 m2 (m+1) (out,t18,t19,t20,t25,t26,t27,t32,t33,t34,b,()) =
  bIf ((hide (decide (t34<t33)))) (
    gIf (0≤t34∧t34<((t32.length:Nat):Int)) (
      bIf ((!(((List.getD t32 t34.toNat (Va.dflt T_api_Version)).2).1))) (
        gIf ((out.length+1)*48≤70368744177664) (
          J3 n m1 m2 m ((out++([(((((List.getD t32 t34.toNat (Va.dflt T_api_Version)).2).2).2).1,((((List.getD t32 t34.toNat (Va.dflt T_api_Version)).2).2).1,((((((List.getD t32 t34.toNat (Va.dflt T_api_Version)).2).2).2).2).1,())))]:List (D_count_says))),t18,t19,t20,t25,t26,t27,t32,t33,(IntKind.i64.wrap (t34+(1:Int))),b,())
          )
        ) (
        J3 n m1 m2 m (out,t18,t19,t20,t25,t26,t27,t32,t33,(IntKind.i64.wrap (t34+(1:Int))),b,())
        )
      )
    ) (
    J4 n m1 m2 (out,t18,t19,t20,t25,t26,t27,b,())
    ):=(hideF_eq _).trans (by kernel_rfl)
theorem e4 (n m1 m2:Nat)(out:List (D_count_says))(t18:List (D_api_Bucket))(t19:Int)(t20:Int)(t25:List (D_api_Object))(t26:Int)(t27:Int)(b:D_api_Bucket):J4 n m1 m2 (out,t18,t19,t20,t25,t26,t27,b,()) =
  J2 n m1 m2 (out,t18,t19,t20,t25,t26,(IntKind.i64.wrap (t27+(1:Int))),b,()):=(hideF_eq _).trans (by kernel_rfl)
theorem e5 (n m1:Nat)(out:List (D_count_says))(t18:List (D_api_Bucket))(t19:Int)(t20:Int)(b:D_api_Bucket):J5 n m1 (out,t18,t19,t20,b,()) =
  J6 n m1 n (out,t18,t19,t20,b.2.2.2.2.2.1,((b.2.2.2.2.2.1.length:Nat):Int),0,()):=(hideF_eq _).trans (by kernel_rfl)
theorem e6 (n m1 m:Nat)(out:List (D_count_says))(t18:List (D_api_Bucket))(t19:Int)(t20:Int)(t54:List (D_api_Upload))(t55:Int)(t56:Int):J6 n m1 (m+1) (out,t18,t19,t20,t54,t55,t56,()) =
  bIf ((hide (decide (t56<t55)))) (
    gIf (0≤t56∧t56<((t54.length:Nat):Int)) (
      J7 n m1 m n (out,t18,t19,t20,t54,t55,t56,((((List.getD t54 t56.toNat (Va.dflt T_api_Upload)).2).2).2).1,(((((((List.getD t54 t56.toNat (Va.dflt T_api_Upload)).2).2).2).1).length:Nat):Int),0,())
      )
    ) (
    J9 n m1 (out,t18,t19,t20,())
    ):=(hideF_eq _).trans (by kernel_rfl)
theorem e7 (n m1 m6 m:Nat) (out:List (D_count_says)) (t18:List (D_api_Bucket)) (t19:Int) (t20:Int) (t54:List (D_api_Upload)) (t55:Int) (t56:Int) (t61:List (D_api_Part)) (t62:Int) (t63:Int):J7 n m1 m6 (m+1) (out,t18,t19,t20,t54,t55,t56,t61,t62,t63,()) =
  bIf ((hide (decide (t63<t62)))) (
    gIf (0≤t63∧t63<((t61.length:Nat):Int)) (
      gIf ((out.length+1)*48≤70368744177664) (
        J7 n m1 m6 m ((out++([((((List.getD t61 t63.toNat (Va.dflt T_api_Part)).2).2).1,(((List.getD t61 t63.toNat (Va.dflt T_api_Part)).2).1,(((((List.getD t61 t63.toNat (Va.dflt T_api_Part)).2).2).2).1,())))]:List (D_count_says))),t18,t19,t20,t54,t55,t56,t61,t62,(IntKind.i64.wrap (t63+(1:Int))),())
        )
      )
    ) (
    J8 n m1 m6 (out,t18,t19,t20,t54,t55,t56,())
    ):=(hideF_eq _).trans (by kernel_rfl)
theorem e8 (n m1 m6:Nat)(out:List (D_count_says))(t18:List (D_api_Bucket))(t19:Int)(t20:Int)(t54:List (D_api_Upload))(t55:Int)(t56:Int):J8 n m1 m6 (out,t18,t19,t20,t54,t55,t56,()) =
  J6 n m1 m6 (out,t18,t19,t20,t54,t55,(IntKind.i64.wrap (t56+(1:Int))),()):=(hideF_eq _).trans (by kernel_rfl)
theorem e9 (n m1:Nat)(out:List (D_count_says))(t18:List (D_api_Bucket))(t19:Int)(t20:Int):J9 n m1 (out,t18,t19,t20,()) =
  J1 n m1 (out,t18,t19,(IntKind.i64.wrap (t20+(1:Int))),()):=(hideF_eq _).trans (by kernel_rfl)
theorem e10 (n:Nat)(out:List (D_count_says)):J10 n (out,()) =
  some (out,()):=(hideF_eq _).trans (by kernel_rfl)
theorem phi (n:Nat):∀ e∈(X n).c.Φ,EntryOk Tryz.prog e:=allE_cons (mkEntry_ok (F_meta_Sound.ok n)) (allE_nil)
theorem ok (n:Nat):FnOk Tryz.prog 53 ia io (fRun (X n) n T Tryz.f53 ia io):=tree_ok mixed tabIs (phi n) Tryz.func53 (by kernel_rfl) rfl
noncomputable def en (n:Nat):Entry:=mkEntry 53 ia io (fRun (X n) n T Tryz.f53 ia io)
end F_count_all
end Go.Proofs.YtemhlkdingkjnaaGreatDoor
namespace Go.Proofs.YtemhlkdingkjnaaGreatDoor
open Go Go.Va Go.Proofs
namespace F_ref15_From
abbrev ia:List Ai:=[.dat T_api_State]
abbrev io:List (Nat×Oi):=[(2,.cel (.p (.d (.int .i64)) (.p (.d (.int .u64)) (.p (.d (.int .u64)) (.p (.r 0 T_api_Bucket) (.p (.r 0 T_ref15_Row) (.p (.r 0 T_ref15_Row) (.d .unit))))))))]
abbrev R:Type:=DOut ia io
noncomputable def X (n:Nat):Ctx:=⟨⟨tab,[],0,[]⟩,111,bnOf 0 ia⟩
abbrev g1:List Si:=[.ref 1 1 T_api_State,.ref 2 2 T_ref15_Flat,.ref 3 3 T_ref15_Flat,.dat 4 (.int .i64),.box 1 (.d T_api_State),.box 2 (.p (.d (.int .i64)) (.p (.d (.int .u64)) (.p (.d (.int .u64)) (.p (.r 100000000002000 T_api_Bucket) (.p (.r 100000000002001 T_ref15_Row) (.p (.r 100000000002002 T_ref15_Row) (.d .unit))))))),.box 3 (.p (.d (.int .i64)) (.p (.d (.int .u64)) (.p (.d (.int .u64)) (.p (.r 100000000003000 T_api_Bucket) (.p (.r 100000000003001 T_ref15_Row) (.p (.r 100000000003002 T_ref15_Row) (.d .unit)))))))]
abbrev g2:List Si:=[.ref 1 1 T_api_State,.ref 2 2 T_ref15_Flat,.ref 3 3 T_ref15_Flat,.dat 4 (.int .i64),.ref 5 5 T_api_Bucket,.dat 6 (.int .i64),.box 1 (.d T_api_State),.box 2 (.p (.d (.int .i64)) (.p (.d (.int .u64)) (.p (.d (.int .u64)) (.p (.r 100000000002000 T_api_Bucket) (.p (.r 100000000002001 T_ref15_Row) (.p (.r 100000000002002 T_ref15_Row) (.d .unit))))))),.box 3 (.p (.d (.int .i64)) (.p (.d (.int .u64)) (.p (.d (.int .u64)) (.p (.r 100000000003000 T_api_Bucket) (.p (.r 100000000003001 T_ref15_Row) (.p (.r 100000000003002 T_ref15_Row) (.d .unit))))))),.box 5 (.d T_api_Bucket)]
abbrev g3:List Si:=[.ref 1 1 T_api_State,.ref 2 2 T_ref15_Flat,.ref 3 3 T_ref15_Flat,.dat 4 (.int .i64),.ref 5 5 T_api_Bucket,.dat 6 (.int .i64),.dat 7 (.int .i64),.box 1 (.d T_api_State),.box 2 (.p (.d (.int .i64)) (.p (.d (.int .u64)) (.p (.d (.int .u64)) (.p (.r 100000000002000 T_api_Bucket) (.p (.r 100000000002001 T_ref15_Row) (.p (.r 100000000002002 T_ref15_Row) (.d .unit))))))),.box 3 (.p (.d (.int .i64)) (.p (.d (.int .u64)) (.p (.d (.int .u64)) (.p (.r 100000000003000 T_api_Bucket) (.p (.r 100000000003001 T_ref15_Row) (.p (.r 100000000003002 T_ref15_Row) (.d .unit))))))),.box 5 (.d T_api_Bucket)]
abbrev g4:List Si:=[.ref 1 1 T_api_State,.ref 2 2 T_ref15_Flat,.ref 3 3 T_ref15_Flat,.dat 4 (.int .i64),.ref 5 5 T_api_Bucket,.dat 6 (.int .i64),.box 1 (.d T_api_State),.box 2 (.p (.d (.int .i64)) (.p (.d (.int .u64)) (.p (.d (.int .u64)) (.p (.r 100000000002000 T_api_Bucket) (.p (.r 100000000002001 T_ref15_Row) (.p (.r 100000000002002 T_ref15_Row) (.d .unit))))))),.box 3 (.p (.d (.int .i64)) (.p (.d (.int .u64)) (.p (.d (.int .u64)) (.p (.r 100000000003000 T_api_Bucket) (.p (.r 100000000003001 T_ref15_Row) (.p (.r 100000000003002 T_ref15_Row) (.d .unit))))))),.box 5 (.d T_api_Bucket)]
abbrev g5:List Si:=[.ref 1 1 T_api_State,.ref 2 2 T_ref15_Flat,.ref 3 3 T_ref15_Flat,.dat 4 (.int .i64),.ref 5 5 T_api_Bucket,.box 1 (.d T_api_State),.box 2 (.p (.d (.int .i64)) (.p (.d (.int .u64)) (.p (.d (.int .u64)) (.p (.r 100000000002000 T_api_Bucket) (.p (.r 100000000002001 T_ref15_Row) (.p (.r 100000000002002 T_ref15_Row) (.d .unit))))))),.box 3 (.p (.d (.int .i64)) (.p (.d (.int .u64)) (.p (.d (.int .u64)) (.p (.r 100000000003000 T_api_Bucket) (.p (.r 100000000003001 T_ref15_Row) (.p (.r 100000000003002 T_ref15_Row) (.d .unit))))))),.box 5 (.d T_api_Bucket)]
abbrev g6:List Si:=[.ref 1 1 T_api_State,.ref 2 2 T_ref15_Flat,.ref 3 3 T_ref15_Flat,.dat 4 (.int .i64),.ref 5 5 T_api_Bucket,.dat 8 (.int .i64),.box 1 (.d T_api_State),.box 2 (.p (.d (.int .i64)) (.p (.d (.int .u64)) (.p (.d (.int .u64)) (.p (.r 100000000002000 T_api_Bucket) (.p (.r 100000000002001 T_ref15_Row) (.p (.r 100000000002002 T_ref15_Row) (.d .unit))))))),.box 3 (.p (.d (.int .i64)) (.p (.d (.int .u64)) (.p (.d (.int .u64)) (.p (.r 100000000003000 T_api_Bucket) (.p (.r 100000000003001 T_ref15_Row) (.p (.r 100000000003002 T_ref15_Row) (.d .unit))))))),.box 5 (.d T_api_Bucket)]
abbrev g7:List Si:=[.ref 1 1 T_api_State,.ref 2 2 T_ref15_Flat,.ref 3 3 T_ref15_Flat,.dat 4 (.int .i64),.box 1 (.d T_api_State),.box 2 (.p (.d (.int .i64)) (.p (.d (.int .u64)) (.p (.d (.int .u64)) (.p (.r 100000000002000 T_api_Bucket) (.p (.r 100000000002001 T_ref15_Row) (.p (.r 100000000002002 T_ref15_Row) (.d .unit))))))),.box 3 (.p (.d (.int .i64)) (.p (.d (.int .u64)) (.p (.d (.int .u64)) (.p (.r 100000000003000 T_api_Bucket) (.p (.r 100000000003001 T_ref15_Row) (.p (.r 100000000003002 T_ref15_Row) (.d .unit)))))))]
abbrev g8:List Si:=[.ref 2 2 T_ref15_Flat,.ref 3 3 T_ref15_Flat,.box 2 (.p (.d (.int .i64)) (.p (.d (.int .u64)) (.p (.d (.int .u64)) (.p (.r 100000000002000 T_api_Bucket) (.p (.r 100000000002001 T_ref15_Row) (.p (.r 100000000002002 T_ref15_Row) (.d .unit))))))),.box 3 (.p (.d (.int .i64)) (.p (.d (.int .u64)) (.p (.d (.int .u64)) (.p (.r 100000000003000 T_api_Bucket) (.p (.r 100000000003001 T_ref15_Row) (.p (.r 100000000003002 T_ref15_Row) (.d .unit)))))))]
noncomputable def T:CT:=(.s .o (.s .o (.s (.s .o (.b (.l g1 (.s .o (.s (.b (.s .o (.s .o (.s (.s .o (.b (.l g2 (.s .o (.s (.b (.s .o (.b (.l g3 .o)))) (.r g4 .o)))))) (.r g5 (.s .o (.b (.l g6 .o)))))))) (.r g7 .o)))))) (.r g8 .o))))
noncomputable def J1 (n:Nat)(m:Nat):Int×D_api_State×D_ref15_Flat×D_ref15_Flat×Unit→Option R:=jL (X n) n T (bodyOf Tryz.f14) (endK ia io) g1 [1,1,0,1,0] [] m
noncomputable def J2 (n m1:Nat)(m:Nat):Int×Int×D_api_State×D_ref15_Flat×D_ref15_Flat×D_api_Bucket×Unit→Option R:=jL (X n) n T (bodyOf Tryz.f14) (endK ia io) g2 [1,1,0,1,0,0,1,0,0,1,1,0,1,0] [m1] m
noncomputable def J3 (n m1 m2:Nat)(m:Nat):Int×Int×Int×D_api_State×D_ref15_Flat×D_ref15_Flat×D_api_Bucket×Unit→Option R:=jL (X n) n T (bodyOf Tryz.f14) (endK ia io) g3 [1,1,0,1,0,0,1,0,0,1,1,0,1,0,0,1,0,0,1,0] [m1,m2] m
noncomputable def J4 (n m1 m2:Nat):Int×Int×D_api_State×D_ref15_Flat×D_ref15_Flat×D_api_Bucket×Unit→Option R:=jR (X n) n T (bodyOf Tryz.f14) (endK ia io) g4 [1,1,0,1,0,0,1,0,0,1,1,0,1,0,0,1,1] [m1,m2]
noncomputable def J5 (n m1:Nat):Int×D_api_State×D_ref15_Flat×D_ref15_Flat×D_api_Bucket×Unit→Option R:=jR (X n) n T (bodyOf Tryz.f14) (endK ia io) g5 [1,1,0,1,0,0,1,0,0,1,1,1] [m1]
noncomputable def J6 (n m1:Nat)(m:Nat):Int×Int×D_api_State×D_ref15_Flat×D_ref15_Flat×D_api_Bucket×Unit→Option R:=jL (X n) n T (bodyOf Tryz.f14) (endK ia io) g6 [1,1,0,1,0,0,1,0,0,1,1,1,1,0] [m1] m
noncomputable def J7 (n m1:Nat):Int×D_api_State×D_ref15_Flat×D_ref15_Flat×Unit→Option R:=jR (X n) n T (bodyOf Tryz.f14) (endK ia io) g7 [1,1,0,1,0,0,1,1] [m1]
noncomputable def J8 (n:Nat):D_ref15_Flat×D_ref15_Flat×Unit→Option R:=jR (X n) n T (bodyOf Tryz.f14) (endK ia io) g8 [1,1,1] []
noncomputable def f (n:Nat)(s_:D_api_State):Option R:=fRun (X n) n T Tryz.f14 ia io (s_,())
theorem e0 (n:Nat)(s_:D_api_State):f n s_ =
  J1 n n (0,s_,(0,(0,(0,([],([],([],())))))),(s_.1,(s_.2.1,(s_.2.2.1,([],([],([],())))))),()):=(hideF_eq _).trans (by kernel_rfl)
theorem e1 (n m:Nat) (i:Int) (s_:D_api_State) (b2:D_ref15_Flat) (f_:D_ref15_Flat):J1 n (m+1) (i,s_,b2,f_,()) =
  bIf ((hide (decide (i<((s_.2.2.2.1.length:Nat):Int))))) (
    gIf (0≤i∧i<((s_.2.2.2.1.length:Nat):Int)) (
      gIf ((f_.2.2.2.1.length+1)*128≤70368744177664) (
        J2 n m n (i,0,s_,(b2.1,(b2.2.1,(b2.2.2.1,(b2.2.2.2.1,(b2.2.2.2.2.1,(b2.2.2.2.2.2.1,b2.2.2.2.2.2.2)))))),(f_.1,(f_.2.1,(f_.2.2.1,((f_.2.2.2.1++([((List.getD s_.2.2.2.1 i.toNat (Va.dflt T_api_Bucket)).1,(((List.getD s_.2.2.2.1 i.toNat (Va.dflt T_api_Bucket)).2).1,((((List.getD s_.2.2.2.1 i.toNat (Va.dflt T_api_Bucket)).2).2).1,(((((List.getD s_.2.2.2.1 i.toNat (Va.dflt T_api_Bucket)).2).2).2).1,([],([],()))))))]:List (D_api_Bucket))),(f_.2.2.2.2.1,(f_.2.2.2.2.2.1,f_.2.2.2.2.2.2)))))),(List.getD s_.2.2.2.1 i.toNat (Va.dflt T_api_Bucket)),())
        )
      )
    ) (
    J8 n ((b2.1,(b2.2.1,(b2.2.2.1,(b2.2.2.2.1,(b2.2.2.2.2.1,(b2.2.2.2.2.2.1,b2.2.2.2.2.2.2)))))),(f_.1,(f_.2.1,(f_.2.2.1,(f_.2.2.2.1,(f_.2.2.2.2.1,(f_.2.2.2.2.2.1,f_.2.2.2.2.2.2)))))),())
    ):=(hideF_eq _).trans (by kernel_rfl)
theorem e2 (n m1 m:Nat)(i:Int)(k_:Int)(s_:D_api_State)(b2:D_ref15_Flat)(f_:D_ref15_Flat)(b:D_api_Bucket):J2 n m1 (m+1) (i,k_,s_,b2,f_,b,()) =
  bIf ((hide (decide (k_<((b.2.2.2.2.1.length:Nat):Int))))) (
    J3 n m1 m n (i,k_,0,s_,(b2.1,(b2.2.1,(b2.2.2.1,(b2.2.2.2.1,(b2.2.2.2.2.1,(b2.2.2.2.2.2.1,b2.2.2.2.2.2.2)))))),(f_.1,(f_.2.1,(f_.2.2.1,(f_.2.2.2.1,(f_.2.2.2.2.1,(f_.2.2.2.2.2.1,f_.2.2.2.2.2.2)))))),b,())
    ) (
    J5 n m1 (i,s_,(b2.1,(b2.2.1,(b2.2.2.1,(b2.2.2.2.1,(b2.2.2.2.2.1,(b2.2.2.2.2.2.1,b2.2.2.2.2.2.2)))))),(f_.1,(f_.2.1,(f_.2.2.1,(f_.2.2.2.1,(f_.2.2.2.2.1,(f_.2.2.2.2.2.1,f_.2.2.2.2.2.2)))))),b,())
    ):=(hideF_eq _).trans (by kernel_rfl)
theorem e3 (n m1 m2 m:Nat) (i:Int) (k_:Int) (j:Int) (s_:D_api_State) (b2:D_ref15_Flat) (f_:D_ref15_Flat) (b:D_api_Bucket):J3 n m1 m2 (m+1) (i,k_,j,s_,b2,f_,b,()) =
  gIf (0 ≤ k_ ∧ k_<((b.2.2.2.2.1.length:Nat):Int)) (
    bIf ((hide (decide (j<(((((List.getD b.2.2.2.2.1 k_.toNat (Va.dflt T_api_Object)).2).1).length:Nat):Int))))) (
      gIf (0≤k_∧k_<((b.2.2.2.2.1.length:Nat):Int)) (
        gIf (0≤k_∧k_<((b.2.2.2.2.1.length:Nat):Int)) (
          gIf (0≤j∧j<(((((List.getD b.2.2.2.2.1 k_.toNat (Va.dflt T_api_Object)).2).1).length:Nat):Int)) (
            gIf ((f_.2.2.2.2.1.length+1)*224≤70368744177664) (
              J3 n m1 m2 m (i,k_,(IntKind.i64.wrap (j+(1:Int))),s_,(b2.1,(b2.2.1,(b2.2.2.1,(b2.2.2.2.1,(b2.2.2.2.2.1,(b2.2.2.2.2.2.1,b2.2.2.2.2.2.2)))))),(f_.1,(f_.2.1,(f_.2.2.1,(f_.2.2.2.1,((f_.2.2.2.2.1++([(b.1,((List.getD b.2.2.2.2.1 k_.toNat (Va.dflt T_api_Object)).1,((List.getD (((List.getD b.2.2.2.2.1 k_.toNat (Va.dflt T_api_Object)).2).1) j.toNat (Va.dflt T_api_Version)),((0,((⟨#[]⟩:ByteArray),([],([],())))),()))))]:List (D_ref15_Row))),(f_.2.2.2.2.2.1,f_.2.2.2.2.2.2)))))),b,())
              )
            )
          )
        )
      ) (
      J4 n m1 m2 (i,k_,s_,(b2.1,(b2.2.1,(b2.2.2.1,(b2.2.2.2.1,(b2.2.2.2.2.1,(b2.2.2.2.2.2.1,b2.2.2.2.2.2.2)))))),(f_.1,(f_.2.1,(f_.2.2.1,(f_.2.2.2.1,(f_.2.2.2.2.1,(f_.2.2.2.2.2.1,f_.2.2.2.2.2.2)))))),b,())
      )
    ):=(hideF_eq _).trans (by kernel_rfl)
theorem e4 (n m1 m2:Nat)(i:Int)(k_:Int)(s_:D_api_State)(b2:D_ref15_Flat)(f_:D_ref15_Flat)(b:D_api_Bucket):J4 n m1 m2 (i,k_,s_,b2,f_,b,()) =
  J2 n m1 m2 (i,(IntKind.i64.wrap (k_+(1:Int))),s_,(b2.1,(b2.2.1,(b2.2.2.1,(b2.2.2.2.1,(b2.2.2.2.2.1,(b2.2.2.2.2.2.1,b2.2.2.2.2.2.2)))))),(f_.1,(f_.2.1,(f_.2.2.1,(f_.2.2.2.1,(f_.2.2.2.2.1,(f_.2.2.2.2.2.1,f_.2.2.2.2.2.2)))))),b,()):=(hideF_eq _).trans (by kernel_rfl)
theorem e5 (n m1:Nat)(i:Int)(s_:D_api_State)(b2:D_ref15_Flat)(f_:D_ref15_Flat)(b:D_api_Bucket):J5 n m1 (i,s_,b2,f_,b,()) =
  J6 n m1 n (i,0,s_,(b2.1,(b2.2.1,(b2.2.2.1,(b2.2.2.2.1,(b2.2.2.2.2.1,(b2.2.2.2.2.2.1,b2.2.2.2.2.2.2)))))),(f_.1,(f_.2.1,(f_.2.2.1,(f_.2.2.2.1,(f_.2.2.2.2.1,(f_.2.2.2.2.2.1,f_.2.2.2.2.2.2)))))),b,()):=(hideF_eq _).trans (by kernel_rfl)
theorem e6 (n m1 m:Nat) (i:Int) (k_:Int) (s_:D_api_State) (b2:D_ref15_Flat) (f_:D_ref15_Flat) (b:D_api_Bucket):J6 n m1 (m+1) (i,k_,s_,b2,f_,b,()) =
  bIf ((hide (decide (k_<((b.2.2.2.2.2.1.length:Nat):Int))))) (
    gIf (0≤k_∧k_<((b.2.2.2.2.2.1.length:Nat):Int)) (
      gIf ((([]:List (D_api_Part)).length+(((((List.getD b.2.2.2.2.2.1 k_.toNat (Va.dflt T_api_Upload)).2).2).2).1).length)*56≤70368744177664) (
        gIf ((f_.2.2.2.2.2.1.length+1)*224≤70368744177664) (
          J6 n m1 m (i,(IntKind.i64.wrap (k_+(1:Int))),s_,(b2.1,(b2.2.1,(b2.2.2.1,(b2.2.2.2.1,(b2.2.2.2.2.1,(b2.2.2.2.2.2.1,b2.2.2.2.2.2.2)))))),(f_.1,(f_.2.1,(f_.2.2.1,(f_.2.2.2.1,(f_.2.2.2.2.1,((f_.2.2.2.2.2.1++([(b.1,((⟨#[]⟩:ByteArray),((0,(false,(0,(0,((List.replicate 32 0),(0,((0,(0,(false,()))),([],())))))))),(((List.getD b.2.2.2.2.2.1 k_.toNat (Va.dflt T_api_Upload)).1,(((List.getD b.2.2.2.2.2.1 k_.toNat (Va.dflt T_api_Upload)).2).1,((((List.getD b.2.2.2.2.2.1 k_.toNat (Va.dflt T_api_Upload)).2).2).1,((([]:List (D_api_Part))++(((((List.getD b.2.2.2.2.2.1 k_.toNat (Va.dflt T_api_Upload)).2).2).2).1)),((((List.getD b.2.2.2.2.2.1 k_.toNat (Va.dflt T_api_Upload)).2).2).2).2)))),()))))]:List (D_ref15_Row))),f_.2.2.2.2.2.2)))))),b,())
          )
        )
      )
    ) (
    J7 n m1 (i,s_,(b2.1,(b2.2.1,(b2.2.2.1,(b2.2.2.2.1,(b2.2.2.2.2.1,(b2.2.2.2.2.2.1,b2.2.2.2.2.2.2)))))),(f_.1,(f_.2.1,(f_.2.2.1,(f_.2.2.2.1,(f_.2.2.2.2.1,(f_.2.2.2.2.2.1,f_.2.2.2.2.2.2)))))),())
    ):=(hideF_eq _).trans (by kernel_rfl)
theorem e7 (n m1:Nat)(i:Int)(s_:D_api_State)(b2:D_ref15_Flat)(f_:D_ref15_Flat):J7 n m1 (i,s_,b2,f_,()) =
  J1 n m1 ((IntKind.i64.wrap (i+(1:Int))),s_,(b2.1,(b2.2.1,(b2.2.2.1,(b2.2.2.2.1,(b2.2.2.2.2.1,(b2.2.2.2.2.2.1,b2.2.2.2.2.2.2)))))),(f_.1,(f_.2.1,(f_.2.2.1,(f_.2.2.2.1,(f_.2.2.2.2.1,(f_.2.2.2.2.2.1,f_.2.2.2.2.2.2)))))),()):=(hideF_eq _).trans (by kernel_rfl)
theorem e8 (n:Nat)(b2:D_ref15_Flat)(f_:D_ref15_Flat):J8 n (b2,f_,()) =
  some ((f_.1,(f_.2.1,(f_.2.2.1,(f_.2.2.2.1,(f_.2.2.2.2.1,(f_.2.2.2.2.2.1,f_.2.2.2.2.2.2)))))),()):=(hideF_eq _).trans (by kernel_rfl)
theorem phi (n:Nat):∀ e∈(X n).c.Φ,EntryOk Tryz.prog e:=allE_nil
theorem ok (n:Nat):FnOk Tryz.prog 14 ia io (fRun (X n) n T Tryz.f14 ia io):=tree_ok mixed tabIs (phi n) Tryz.func14 (by kernel_rfl) rfl
noncomputable def en (n:Nat):Entry:=mkEntry 14 ia io (fRun (X n) n T Tryz.f14 ia io)
end F_ref15_From
end Go.Proofs.YtemhlkdingkjnaaGreatDoor
namespace Go.Proofs.YtemhlkdingkjnaaGreatDoor
open Go Go.Va Go.Proofs
namespace F_ref16_All
abbrev ia:List Ai:=[.dat T_api_State]
abbrev io:List (Nat×Oi):=[(2,.val (.r 0 T_count_Use))]
abbrev R:Type:=DOut ia io
noncomputable def X (n:Nat):Ctx:=⟨⟨tab,[F_ref15_Sound.en n,F_ref15_From.en n],0,[]⟩,121,bnOf 0 ia⟩
abbrev g1:List Si:=[.val 3 (.r 200300 T_count_Use),.ref 4 4 T_ref15_Flat,.dat 5 (.int .i64),.box 4 (.p (.d (.int .i64)) (.p (.d (.int .u64)) (.p (.d (.int .u64)) (.p (.r 100000000004000 T_api_Bucket) (.p (.r 100000000004001 T_ref15_Row) (.p (.r 100000000004002 T_ref15_Row) (.d .unit)))))))]
abbrev g2:List Si:=[.val 3 (.r 200300 T_count_Use),.ref 4 4 T_ref15_Flat,.dat 5 (.int .i64),.dat 6 (.int .i64),.box 4 (.p (.d (.int .i64)) (.p (.d (.int .u64)) (.p (.d (.int .u64)) (.p (.r 100000000004000 T_api_Bucket) (.p (.r 100000000004001 T_ref15_Row) (.p (.r 100000000004002 T_ref15_Row) (.d .unit)))))))]
abbrev g3:List Si:=[.val 3 (.r 200300 T_count_Use),.ref 4 4 T_ref15_Flat,.dat 5 (.int .i64),.dat 6 (.int .i64),.ref 7 7 T_api_Version,.dat 55 .bool,.box 4 (.p (.d (.int .i64)) (.p (.d (.int .u64)) (.p (.d (.int .u64)) (.p (.r 100000000004000 T_api_Bucket) (.p (.r 100000000004001 T_ref15_Row) (.p (.r 100000000004002 T_ref15_Row) (.d .unit))))))),.box 7 (.d T_api_Version)]
abbrev g4:List Si:=[.val 3 (.r 200300 T_count_Use),.ref 4 4 T_ref15_Flat,.dat 5 (.int .i64),.dat 6 (.int .i64),.box 4 (.p (.d (.int .i64)) (.p (.d (.int .u64)) (.p (.d (.int .u64)) (.p (.r 100000000004000 T_api_Bucket) (.p (.r 100000000004001 T_ref15_Row) (.p (.r 100000000004002 T_ref15_Row) (.d .unit)))))))]
abbrev g5:List Si:=[.val 3 (.r 200300 T_count_Use),.ref 4 4 T_ref15_Flat,.dat 5 (.int .i64),.box 4 (.p (.d (.int .i64)) (.p (.d (.int .u64)) (.p (.d (.int .u64)) (.p (.r 100000000004000 T_api_Bucket) (.p (.r 100000000004001 T_ref15_Row) (.p (.r 100000000004002 T_ref15_Row) (.d .unit)))))))]
abbrev g6:List Si:=[.val 3 (.r 200300 T_count_Use),.ref 4 4 T_ref15_Flat,.dat 5 (.int .i64),.dat 8 (.int .i64),.box 4 (.p (.d (.int .i64)) (.p (.d (.int .u64)) (.p (.d (.int .u64)) (.p (.r 100000000004000 T_api_Bucket) (.p (.r 100000000004001 T_ref15_Row) (.p (.r 100000000004002 T_ref15_Row) (.d .unit)))))))]
abbrev g7:List Si:=[.val 3 (.r 200300 T_count_Use),.ref 4 4 T_ref15_Flat,.dat 5 (.int .i64),.dat 8 (.int .i64),.dat 9 (.int .i64),.box 4 (.p (.d (.int .i64)) (.p (.d (.int .u64)) (.p (.d (.int .u64)) (.p (.r 100000000004000 T_api_Bucket) (.p (.r 100000000004001 T_ref15_Row) (.p (.r 100000000004002 T_ref15_Row) (.d .unit)))))))]
abbrev g8:List Si:=[.val 3 (.r 200300 T_count_Use),.ref 4 4 T_ref15_Flat,.dat 5 (.int .i64),.dat 8 (.int .i64),.dat 9 (.int .i64),.box 4 (.p (.d (.int .i64)) (.p (.d (.int .u64)) (.p (.d (.int .u64)) (.p (.r 100000000004000 T_api_Bucket) (.p (.r 100000000004001 T_ref15_Row) (.p (.r 100000000004002 T_ref15_Row) (.d .unit)))))))]
abbrev g9:List Si:=[.val 3 (.r 200300 T_count_Use),.ref 4 4 T_ref15_Flat,.dat 5 (.int .i64),.dat 8 (.int .i64),.box 4 (.p (.d (.int .i64)) (.p (.d (.int .u64)) (.p (.d (.int .u64)) (.p (.r 100000000004000 T_api_Bucket) (.p (.r 100000000004001 T_ref15_Row) (.p (.r 100000000004002 T_ref15_Row) (.d .unit)))))))]
abbrev g10:List Si:=[.val 3 (.r 200300 T_count_Use),.ref 4 4 T_ref15_Flat,.dat 5 (.int .i64),.box 4 (.p (.d (.int .i64)) (.p (.d (.int .u64)) (.p (.d (.int .u64)) (.p (.r 100000000004000 T_api_Bucket) (.p (.r 100000000004001 T_ref15_Row) (.p (.r 100000000004002 T_ref15_Row) (.d .unit)))))))]
abbrev g11:List Si:=[.val 3 (.r 200300 T_count_Use)]
noncomputable def T:CT:=(.s .o (.s .o (.s .o (.s .o (.s (.s .o (.b (.l g1 (.s .o (.s (.b (.s (.s .o (.b (.l g2 (.s .o (.s (.b (.s .o (.s .o (.r g3 .o)))) (.r g4 .o)))))) (.r g5 (.s .o (.b (.l g6 (.s .o (.s (.b (.s .o (.b (.l g7 (.s .o (.r g8 .o)))))) (.r g9 .o))))))))) (.r g10 .o)))))) (.r g11 .o))))))
noncomputable def J1 (n:Nat)(m:Nat):(List (D_count_Use))×Int×D_ref15_Flat×Unit→Option R:=jL (X n) n T (bodyOf Tryz.f58) (endK ia io) g1 [1,1,1,1,0,1,0] [] m
noncomputable def J2 (n m1:Nat)(m:Nat):(List (D_count_Use))×Int×Int×D_ref15_Flat×Unit→Option R:=jL (X n) n T (bodyOf Tryz.f58) (endK ia io) g2 [1,1,1,1,0,1,0,0,1,0,0,0,1,0] [m1] m
noncomputable def J3 (n m1 m2:Nat):(List (D_count_Use))×Int×Int×Bool×D_ref15_Flat×D_api_Version×Unit→Option R:=jR (X n) n T (bodyOf Tryz.f58) (endK ia io) g3 [1,1,1,1,0,1,0,0,1,0,0,0,1,0,0,1,0,0,1,1] [m1,m2]
noncomputable def J4 (n m1 m2:Nat):(List (D_count_Use))×Int×Int×D_ref15_Flat×Unit→Option R:=jR (X n) n T (bodyOf Tryz.f58) (endK ia io) g4 [1,1,1,1,0,1,0,0,1,0,0,0,1,0,0,1,1] [m1,m2]
noncomputable def J5 (n m1:Nat):(List (D_count_Use))×Int×D_ref15_Flat×Unit→Option R:=jR (X n) n T (bodyOf Tryz.f58) (endK ia io) g5 [1,1,1,1,0,1,0,0,1,0,0,1] [m1]
noncomputable def J6 (n m1:Nat)(m:Nat):(List (D_count_Use))×Int×Int×D_ref15_Flat×Unit→Option R:=jL (X n) n T (bodyOf Tryz.f58) (endK ia io) g6 [1,1,1,1,0,1,0,0,1,0,0,1,1,0] [m1] m
noncomputable def J7 (n m1 m6:Nat)(m:Nat):(List (D_count_Use))×Int×Int×Int×D_ref15_Flat×Unit→Option R:=jL (X n) n T (bodyOf Tryz.f58) (endK ia io) g7 [1,1,1,1,0,1,0,0,1,0,0,1,1,0,0,1,0,0,1,0] [m1,m6] m
noncomputable def J8 (n m1 m6 m7:Nat):(List (D_count_Use))×Int×Int×Int×D_ref15_Flat×Unit→Option R:=jR (X n) n T (bodyOf Tryz.f58) (endK ia io) g8 [1,1,1,1,0,1,0,0,1,0,0,1,1,0,0,1,0,0,1,0,0,1] [m1,m6,m7]
noncomputable def J9 (n m1 m6:Nat):(List (D_count_Use))×Int×Int×D_ref15_Flat×Unit→Option R:=jR (X n) n T (bodyOf Tryz.f58) (endK ia io) g9 [1,1,1,1,0,1,0,0,1,0,0,1,1,0,0,1,1] [m1,m6]
noncomputable def J10 (n m1:Nat):(List (D_count_Use))×Int×D_ref15_Flat×Unit→Option R:=jR (X n) n T (bodyOf Tryz.f58) (endK ia io) g10 [1,1,1,1,0,1,0,0,1,1] [m1]
noncomputable def J11 (n:Nat):(List (D_count_Use))×Unit→Option R:=jR (X n) n T (bodyOf Tryz.f58) (endK ia io) g11 [1,1,1,1,1] []
noncomputable def f (n:Nat)(s_:D_api_State):Option R:=fRun (X n) n T Tryz.f58 ia io (s_,())
theorem e0 (n:Nat)(s_:D_api_State):f n s_ =
  bnd (F_ref15_Sound.f n s_) λu1=>
  bIf ((!u1.1)) (
    some (([]:List (D_count_Use)),())
    ) (
    bnd (F_ref15_From.f n s_) λu2=>
    J1 n n (([]:List (D_count_Use)),0,(u2.1.1,(u2.1.2.1,(u2.1.2.2.1,(u2.1.2.2.2.1,(u2.1.2.2.2.2.1,(u2.1.2.2.2.2.2.1,u2.1.2.2.2.2.2.2)))))),())
    ):=(hideF_eq _).trans (by kernel_rfl)
theorem e1 (n m:Nat)(out:List (D_count_Use))(b:Int)(f_:D_ref15_Flat):J1 n (m+1) (out,b,f_,()) =
  bIf ((hide (decide (b<((f_.2.2.2.1.length:Nat):Int))))) (
    J2 n m n (out,b,0,(f_.1,(f_.2.1,(f_.2.2.1,(f_.2.2.2.1,(f_.2.2.2.2.1,(f_.2.2.2.2.2.1,f_.2.2.2.2.2.2)))))),())
    ) (
    J11 n (out,())
    ):=(hideF_eq _).trans (by kernel_rfl)
theorem e2 (n m1 m:Nat) (out:List (D_count_Use)) (b:Int) (i:Int) (f_:D_ref15_Flat):J2 n m1 (m+1) (out,b,i,f_,()) =
  bIf ((hide (decide (i<((f_.2.2.2.2.1.length:Nat):Int))))) (
    gIf (0≤i∧i<((f_.2.2.2.2.1.length:Nat):Int)) (
      gIf (0≤i∧i<((f_.2.2.2.2.1.length:Nat):Int)) (
        gIf (0≤b∧b<((f_.2.2.2.1.length:Nat):Int)) (
          bIf ((hide (eqS ((List.getD f_.2.2.2.2.1 (0+i.toNat) (Va.dflt T_ref15_Row)).1) ((List.getD f_.2.2.2.1 (0+b.toNat) (Va.dflt T_api_Bucket)).1)))) (
            J3 n m1 m (out,b,i,(!((((((List.getD f_.2.2.2.2.1 (0+i.toNat) (Va.dflt T_ref15_Row)).2).2).1).2).1)),(f_.1,(f_.2.1,(f_.2.2.1,(f_.2.2.2.1,(f_.2.2.2.2.1,(f_.2.2.2.2.2.1,f_.2.2.2.2.2.2)))))),(((List.getD f_.2.2.2.2.1 (0+i.toNat) (Va.dflt T_ref15_Row)).2).2).1,())
            ) (
            J3 n m1 m (out,b,i,false,(f_.1,(f_.2.1,(f_.2.2.1,(f_.2.2.2.1,(f_.2.2.2.2.1,(f_.2.2.2.2.2.1,f_.2.2.2.2.2.2)))))),(((List.getD f_.2.2.2.2.1 (0+i.toNat) (Va.dflt T_ref15_Row)).2).2).1,())
            )
          )
        )
      )
    ) (
    J5 n m1 (out,b,(f_.1,(f_.2.1,(f_.2.2.1,(f_.2.2.2.1,(f_.2.2.2.2.1,(f_.2.2.2.2.2.1,f_.2.2.2.2.2.2)))))),())
    ):=(hideF_eq _).trans (by kernel_rfl)
theorem e3 (n m1 m2:Nat)(out:List (D_count_Use))(b:Int)(i:Int)(t55:Bool)(f_:D_ref15_Flat)(v_:D_api_Version):J3 n m1 m2 (out,b,i,t55,f_,v_,()) =
  bIf (t55) (
    gIf ((out.length+1)*56≤70368744177664) (
      J4 n m1 m2 ((out++([(v_.2.2.2.1,(1,(v_.2.2.1,(v_.2.2.2.2.1,()))))]:List (D_count_Use))),b,i,(f_.1,(f_.2.1,(f_.2.2.1,(f_.2.2.2.1,(f_.2.2.2.2.1,(f_.2.2.2.2.2.1,f_.2.2.2.2.2.2)))))),())
      )
    ) (
    J4 n m1 m2 (out,b,i,(f_.1,(f_.2.1,(f_.2.2.1,(f_.2.2.2.1,(f_.2.2.2.2.1,(f_.2.2.2.2.2.1,f_.2.2.2.2.2.2)))))),())
    ):=(hideF_eq _).trans (by kernel_rfl)
theorem e4 (n m1 m2:Nat)(out:List (D_count_Use))(b:Int)(i:Int)(f_:D_ref15_Flat):J4 n m1 m2 (out,b,i,f_,()) =
  J2 n m1 m2 (out,b,(IntKind.i64.wrap (i+(1:Int))),(f_.1,(f_.2.1,(f_.2.2.1,(f_.2.2.2.1,(f_.2.2.2.2.1,(f_.2.2.2.2.2.1,f_.2.2.2.2.2.2)))))),()):=(hideF_eq _).trans (by kernel_rfl)
theorem e5 (n m1:Nat)(out:List (D_count_Use))(b:Int)(f_:D_ref15_Flat):J5 n m1 (out,b,f_,()) =
  J6 n m1 n (out,b,0,(f_.1,(f_.2.1,(f_.2.2.1,(f_.2.2.2.1,(f_.2.2.2.2.1,(f_.2.2.2.2.2.1,f_.2.2.2.2.2.2)))))),()):=(hideF_eq _).trans (by kernel_rfl)
theorem e6 (n m1 m:Nat)(out:List (D_count_Use))(b:Int)(i:Int)(f_:D_ref15_Flat):J6 n m1 (m+1) (out,b,i,f_,()) =
  bIf ((hide (decide (i<((f_.2.2.2.2.2.1.length:Nat):Int))))) (
    J7 n m1 m n (out,b,i,0,(f_.1,(f_.2.1,(f_.2.2.1,(f_.2.2.2.1,(f_.2.2.2.2.1,(f_.2.2.2.2.2.1,f_.2.2.2.2.2.2)))))),())
    ) (
    J10 n m1 (out,b,(f_.1,(f_.2.1,(f_.2.2.1,(f_.2.2.2.1,(f_.2.2.2.2.1,(f_.2.2.2.2.2.1,f_.2.2.2.2.2.2)))))),())
    ):=(hideF_eq _).trans (by kernel_rfl)
theorem e7 (n m1 m6 m:Nat) (out:List (D_count_Use)) (b:Int) (i:Int) (k_:Int) (f_:D_ref15_Flat):J7 n m1 m6 (m+1) (out,b,i,k_,f_,()) =
  gIf (0≤i∧i<((f_.2.2.2.2.2.1.length:Nat):Int)) (
    gIf (0≤b∧b<((f_.2.2.2.1.length:Nat):Int)) (
      bIf ((hide (eqS ((List.getD f_.2.2.2.2.2.1 (0+i.toNat) (Va.dflt T_ref15_Row)).1) ((List.getD f_.2.2.2.1 (0+b.toNat) (Va.dflt T_api_Bucket)).1)))) (
        gIf (0≤i∧i<((f_.2.2.2.2.2.1.length:Nat):Int)) (
          bIf ((hide (decide (k_<(((((((((((List.getD f_.2.2.2.2.2.1 (0+i.toNat) (Va.dflt T_ref15_Row)).2).2).2).1).2).2).2).1).length:Nat):Int))))) (
            J8 n m1 m6 m (out,b,i,k_,(f_.1,(f_.2.1,(f_.2.2.1,(f_.2.2.2.1,(f_.2.2.2.2.1,(f_.2.2.2.2.2.1,f_.2.2.2.2.2.2)))))),())
            ) (
            J9 n m1 m6 (out,b,i,(f_.1,(f_.2.1,(f_.2.2.1,(f_.2.2.2.1,(f_.2.2.2.2.1,(f_.2.2.2.2.2.1,f_.2.2.2.2.2.2)))))),())
            )
          )
        ) (
        J9 n m1 m6 (out,b,i,(f_.1,(f_.2.1,(f_.2.2.1,(f_.2.2.2.1,(f_.2.2.2.2.1,(f_.2.2.2.2.2.1,f_.2.2.2.2.2.2)))))),())
        )
      )
    ):=(hideF_eq _).trans (by kernel_rfl)
theorem e8 (n m1 m6 m7:Nat) (out:List (D_count_Use)) (b:Int) (i:Int) (k_:Int) (f_:D_ref15_Flat):J8 n m1 m6 m7 (out,b,i,k_,f_,()) =
  gIf (0≤i∧i<((f_.2.2.2.2.2.1.length:Nat):Int)) (
    gIf (0≤k_∧k_<(((((((((((List.getD f_.2.2.2.2.2.1 (0+i.toNat) (Va.dflt T_ref15_Row)).2).2).2).1).2).2).2).1).length:Nat):Int)) (
      gIf ((out.length+1)*56≤70368744177664) (
        J7 n m1 m6 m7 ((out++([((((List.getD (((((((((List.getD f_.2.2.2.2.2.1 (0+i.toNat) (Va.dflt T_ref15_Row)).2).2).2).1).2).2).2).1) k_.toNat (Va.dflt T_api_Part)).2).2).1,(1,(((List.getD (((((((((List.getD f_.2.2.2.2.2.1 (0+i.toNat) (Va.dflt T_ref15_Row)).2).2).2).1).2).2).2).1) k_.toNat (Va.dflt T_api_Part)).2).1,(((((List.getD (((((((((List.getD f_.2.2.2.2.2.1 (0+i.toNat) (Va.dflt T_ref15_Row)).2).2).2).1).2).2).2).1) k_.toNat (Va.dflt T_api_Part)).2).2).2).1,()))))]:List (D_count_Use))),b,i,(IntKind.i64.wrap (k_+(1:Int))),(f_.1,(f_.2.1,(f_.2.2.1,(f_.2.2.2.1,(f_.2.2.2.2.1,(f_.2.2.2.2.2.1,f_.2.2.2.2.2.2)))))),())
        )
      )
    ):=(hideF_eq _).trans (by kernel_rfl)
theorem e9 (n m1 m6:Nat)(out:List (D_count_Use))(b:Int)(i:Int)(f_:D_ref15_Flat):J9 n m1 m6 (out,b,i,f_,()) =
  J6 n m1 m6 (out,b,(IntKind.i64.wrap (i+(1:Int))),(f_.1,(f_.2.1,(f_.2.2.1,(f_.2.2.2.1,(f_.2.2.2.2.1,(f_.2.2.2.2.2.1,f_.2.2.2.2.2.2)))))),()):=(hideF_eq _).trans (by kernel_rfl)
theorem e10 (n m1:Nat)(out:List (D_count_Use))(b:Int)(f_:D_ref15_Flat):J10 n m1 (out,b,f_,()) =
  J1 n m1 (out,(IntKind.i64.wrap (b+(1:Int))),(f_.1,(f_.2.1,(f_.2.2.1,(f_.2.2.2.1,(f_.2.2.2.2.1,(f_.2.2.2.2.2.1,f_.2.2.2.2.2.2)))))),()):=(hideF_eq _).trans (by kernel_rfl)
theorem e11 (n:Nat)(out:List (D_count_Use)):J11 n (out,()) =
  some (out,()):=(hideF_eq _).trans (by kernel_rfl)
theorem phi (n:Nat):∀ e∈(X n).c.Φ,EntryOk Tryz.prog e:=allE_cons (mkEntry_ok (F_ref15_Sound.ok n)) (allE_cons (mkEntry_ok (F_ref15_From.ok n)) (allE_nil))
theorem ok (n:Nat):FnOk Tryz.prog 58 ia io (fRun (X n) n T Tryz.f58 ia io):=tree_ok mixed tabIs (phi n) Tryz.func58 (by kernel_rfl) rfl
noncomputable def en (n:Nat):Entry:=mkEntry 58 ia io (fRun (X n) n T Tryz.f58 ia io)
end F_ref16_All
end Go.Proofs.YtemhlkdingkjnaaGreatDoor
namespace Go.Proofs.YtemhlkdingkjnaaGreatDoor
open Go Go.Va Go.Proofs
namespace F_slices_Clip_Use
abbrev ia:List Ai:=[.dat (.slice T_count_Use)]
abbrev io:List (Nat×Oi):=[(2,.dat (.slice T_count_Use))]
abbrev R:Type:=DOut ia io
noncomputable def X (n:Nat):Ctx:=⟨⟨tab,[],0,[]⟩,9,bnOf 0 ia⟩
noncomputable def T:CT := .o
noncomputable def f (n:Nat)(s_:List (D_count_Use)):Option R:=fRun (X n) n T Tryz.f57 ia io (s_,())
theorem e0 (n:Nat) (s_:List (D_count_Use)):f n s_ =
  gIf (0≤((s_.length:Nat):Int)∧((s_.length:Nat):Int)≤((s_.length:Nat):Int)) (
    gIf (0≤(0:Int)∧(0:Int)≤((s_.length:Nat):Int)) (
      gIf (((s_.length:Nat):Int)≤((s_.length:Nat):Int)∧((s_.length:Nat):Int)≤((s_.length:Nat):Int)∧true=true) (
        some (((s_.take (((s_.length:Nat):Int).toNat)).drop 0),())
        )
      )
    ):=(hideF_eq _).trans (by kernel_rfl)
theorem phi (n:Nat):∀ e∈(X n).c.Φ,EntryOk Tryz.prog e:=allE_nil
theorem ok (n:Nat):FnOk Tryz.prog 57 ia io (fRun (X n) n T Tryz.f57 ia io):=tree_ok mixed tabIs (phi n) Tryz.func57 (by kernel_rfl) rfl
noncomputable def en (n:Nat):Entry:=mkEntry 57 ia io (fRun (X n) n T Tryz.f57 ia io)
end F_slices_Clip_Use
end Go.Proofs.YtemhlkdingkjnaaGreatDoor
namespace Go.Proofs
open Go.Shelf
def Tryz.sortUse_ren:Go.Shelf.Ren:=⟨fun | 6=>54 | 15=>80 | 14=>90 | 28=>130 | 29=>131 | 20=>134 | 21=>135 | 22=>136 | 23=>137 | 24=>138 | 25=>139 | 26=>140 | 27=>141 | 46=>190 | 47=>185 | 48=>186 | 49=>191 | 50=>192 | 57=>221 | n=>n,fun | 22=>75 | 24=>80 | 25=>126 | 3=>3 | 39=>155 | 0=>0 | 53=>193 | 55=>22 | 4=>4 | 46=>187 | 45=>186 | 50=>96 | 5=>5 | 9=>9 | 66=>230 | 70=>234 | 76=>263 | 77=>264 | n=>n,fun | n=>n⟩
theorem Tryz.sortUse:Go.Proofs.SlLaysF0.n6 Tryz.prog Tryz.sortUse_ren:={
  mixed:=by kernel_rfl
  f6:=⟨Tryz.f54.name,by kernel_rfl,Tryz.func54.trans (congrArg some (by kernel_rfl))⟩
  f14:=⟨Tryz.f90.name,by kernel_rfl,Tryz.func90.trans (congrArg some (by kernel_rfl))⟩
  f15:=Tryz.func80.trans (congrArg some (by kernel_rfl))
  f20:=⟨Tryz.f134.name,by kernel_rfl,Tryz.func134.trans (congrArg some (by kernel_rfl))⟩
  f21:=⟨Tryz.f135.name,by kernel_rfl,Tryz.func135.trans (congrArg some (by kernel_rfl))⟩
  f22:=⟨Tryz.f136.name,by kernel_rfl,Tryz.func136.trans (congrArg some (by kernel_rfl))⟩
  f23:=⟨Tryz.f137.name,by kernel_rfl,Tryz.func137.trans (congrArg some (by kernel_rfl))⟩
  f24:=⟨Tryz.f138.name,by kernel_rfl,Tryz.func138.trans (congrArg some (by kernel_rfl))⟩
  f25:=⟨Tryz.f139.name,by kernel_rfl,Tryz.func139.trans (congrArg some (by kernel_rfl))⟩
  f26:=⟨Tryz.f140.name,by kernel_rfl,Tryz.func140.trans (congrArg some (by kernel_rfl))⟩
  f27:=⟨Tryz.f141.name,by kernel_rfl,Tryz.func141.trans (congrArg some (by kernel_rfl))⟩
  f28:=Tryz.func130.trans (congrArg some (by kernel_rfl))
  f29:=Tryz.func131.trans (congrArg some (by kernel_rfl))
  f46:=⟨Tryz.f190.name,by kernel_rfl,Tryz.func190.trans (congrArg some (by kernel_rfl))⟩
  f47:=Tryz.func185.trans (congrArg some (by kernel_rfl))
  f48:=Tryz.func186.trans (congrArg some (by kernel_rfl))
  f49:=⟨Tryz.f191.name,by kernel_rfl,Tryz.func191.trans (congrArg some (by kernel_rfl))⟩
  f50:=⟨Tryz.f192.name,by kernel_rfl,Tryz.func192.trans (congrArg some (by kernel_rfl))⟩
  f57:=⟨Tryz.f221.name,by kernel_rfl,Tryz.func221.trans (congrArg some (by kernel_rfl))⟩
  t0:=Tryz.underlying0
  a0:=Tryz.isAgg0
  z0:=Tryz.sizeOf0
  v0:=Tryz.zeroValue0
  t3:=Tryz.underlying3
  a3:=Tryz.isAgg3
  z3:=Tryz.sizeOf3
  v3:=Tryz.zeroValue3
  t4:=Tryz.underlying4
  a4:=Tryz.isAgg4
  z4:=Tryz.sizeOf4
  v4:=Tryz.zeroValue4
  t5:=Tryz.underlying5
  a5:=Tryz.isAgg5
  z5:=Tryz.sizeOf5
  v5:=Tryz.zeroValue5
  t9:=Tryz.underlying9
  a9:=Tryz.isAgg9
  z9:=Tryz.sizeOf9
  v9:=Tryz.zeroValue9
  t22:=Tryz.underlying75
  a22:=Tryz.isAgg75
  z22:=Tryz.sizeOf75
  v22:=Tryz.zeroValue75
  t25:=Tryz.underlying126
  a25:=Tryz.isAgg126
  z25:=Tryz.sizeOf126
  v25:=Tryz.zeroValue126
  t39:=Tryz.underlying155
  a39:=Tryz.isAgg155
  z39:=Tryz.sizeOf155
  v39:=Tryz.zeroValue155
  t45:=Tryz.underlying186
  a45:=Tryz.isAgg186
  z45:=Tryz.sizeOf186
  v45:=Tryz.zeroValue186
  t46:=Tryz.underlying187
  a46:=Tryz.isAgg187
  z46:=Tryz.sizeOf187
  v46:=Tryz.zeroValue187
  t50:=Tryz.underlying96
  a50:=Tryz.isAgg96
  z50:=Tryz.sizeOf96
  v50:=Tryz.zeroValue96
  t53:=Tryz.underlying193
  a53:=Tryz.isAgg193
  z53:=Tryz.sizeOf193
  v53:=Tryz.zeroValue193
  t55:=Tryz.underlying22
  a55:=Tryz.isAgg22
  z55:=Tryz.sizeOf22
  v55:=Tryz.zeroValue22
  t66:=Tryz.underlying230
  a66:=Tryz.isAgg230
  z66:=Tryz.sizeOf230
  v66:=Tryz.zeroValue230
  t70:=Tryz.underlying234
  a70:=Tryz.isAgg234
  z70:=Tryz.sizeOf234
  v70:=Tryz.zeroValue234
  t76:=Tryz.underlying263
  a76:=Tryz.isAgg263
  z76:=Tryz.sizeOf263
  v76:=Tryz.zeroValue263
  t77:=Tryz.underlying264
  a77:=Tryz.isAgg264
  z77:=Tryz.sizeOf264
  v77:=Tryz.zeroValue264 }
end Go.Proofs
namespace Go.Proofs.YtemhlkdingkjnaaGreatDoor
open Go Go.Va Go.Proofs Go.RowKit Go.Lib Go.Sort Go.Shelf
namespace F_slices_SortFunc_Use
theorem isNaN_u64 (x:Int)(w:World):Calls Tryz.prog 91 #[.int .u64 x] w λe w'=>e = .returned (.bool false)∧w'=w:=by
  have mixed:=mixed
  go_enter Tryz.func91,Tryz.ntmps91
  go_wp2
  go_ret
  exact⟨by simp,rfl⟩
set_option maxHeartbeats 1000000 in
theorem compare_u64 (x y:Int)(w:World):Calls Tryz.prog 56 #[.int .u64 x,.int .u64 y] w λe w'=>e = .returned (.int .i64 (Lib.compareInt x y))∧w'=w:=by
  have mixed:=mixed
  go_enter Tryz.func56,Tryz.ntmps56
  go_wp2_with (go_at_call 91;refine (isNaN_u64 _ _).mono ?_;rintro e w' ⟨rfl,hw⟩;rw[hw])
  all_goals (go_ret;refine⟨?_,rfl⟩;unfold Lib.compareInt;(repeat' split)<;>first | rfl | (exfalso;omega))
set_option maxHeartbeats 1000000 in
theorem closure (A B:Array Value)(x y:Int)(hA:A[0]?=some (.int .u64 x))(hB:B[0]?=some (.int .u64 y))(W:World):Calls Tryz.prog 55 #[.agg A,.agg B] W λe w'=>e = .returned (.int .i64 (Lib.compareInt x y))∧∃ q os',w'=grow (W.drewN q) os':=by
  have mixed:=mixed
  have hcon:=compare_u64 x y
  generalize Lib.compareInt x y=r at hcon ⊢
  go_enter Tryz.func55,Tryz.ntmps55
  go_wp2_with (go_at_call 56;refine (hcon _).mono ?_;rintro e w' ⟨rfl,rfl⟩)
  go_ret
  exact⟨rfl,0,_,by rw[alloc_eq_grow,alloc_eq_grow,grow_grow];rfl⟩
def lt (x y:D_count_Use):Bool:=decide (x.1<y.1)
theorem lt_cf (x y:D_count_Use):lt x y=decide (Lib.compareInt x.1 y.1<0):=by
  unfold lt Lib.compareInt
  by_cases h1:x.1<y.1
  · simp[h1]
  · by_cases h2:y.1<x.1<;>simp[h1,h2]
theorem swo:SWO lt:=by
  refine⟨λx => ?_,λx y z h1 h2 => ?_,λx y z h1 h2 => ?_⟩
  · unfold lt;simp
  · unfold lt at *; simp at *; omega
  · unfold lt at *; simp at *; omega
noncomputable def en:Entry:=sortEn 54 55 T_count_Use lt
theorem fst_cell {S:Nat→Prop}{W:World}{x:D_count_Use}{c:List Value}(h:Rd S W T_count_Use x c):c.toArray[0]?=some (.int .u64 x.1):=by
  obtain⟨c1,c2,e,h1,_⟩:=h
  have h1:c1=[.int .u64 x.1]:=h1
  subst e;subst h1
  simp
theorem ok:EntryOk Tryz.prog en:=
  sort_ok Tryz.sortUse (e:=T_count_Use) (tabIs 80 _ rfl).1 rfl rfl (cf:=λx y=>Lib.compareInt x.1 y.1) lt_cf swo (enters_of Tryz.func55 (by kernel_rfl) rfl)
    (λ_ W _ _ _ _ hx hy=>closure _ _ _ _ (fst_cell hx) (fst_cell hy) W) ⟨Tryz.f54,Tryz.func54,by kernel_rfl,by kernel_rfl⟩
end F_slices_SortFunc_Use
end Go.Proofs.YtemhlkdingkjnaaGreatDoor
namespace Go.Proofs.YtemhlkdingkjnaaGreatDoor
open Go Go.Va Go.Proofs
namespace F_count_Uses
abbrev ia:List Ai:=[.dat T_api_State]
abbrev io:List (Nat×Oi):=[(2,.dat (.slice T_count_Use))]
abbrev R:Type:=DOut ia io
noncomputable def X (n:Nat):Ctx:=⟨⟨tab,[F_count_all.en n,F_slices_SortFunc_Use.en,F_slices_Clip_Use.en n],0,[]⟩,55,bnOf 0 ia⟩
abbrev g1:List Si:=[.val 3 (.m 200300 (.int .u64) (.int .i64)),.val 4 (.r 200400 T_count_Use),.val 11 (.r 201100 T_count_says),.dat 12 (.int .i64),.dat 13 (.int .i64)]
abbrev g2:List Si:=[.val 3 (.m 200300 (.int .u64) (.int .i64)),.val 4 (.r 200400 T_count_Use),.dat 7 (.int .i64),.val 11 (.r 201100 T_count_says),.dat 12 (.int .i64),.dat 13 (.int .i64)]
abbrev g3:List Si:=[.val 4 (.r 200400 T_count_Use)]
noncomputable def T:CT:=(.s .o (.s .o (.s .o (.s (.s .o (.b (.l g1 (.s .o (.s .o (.s (.b (.s .o (.s .o (.s .o (.r g2 .o))))) .o)))))) (.r g3 .o)))))
noncomputable def J1 (n:Nat)(m:Nat):(List (Int×Int))×(List (D_count_Use))×(List (D_count_says))×Int×Int×Unit→Option R:=jL (X n) n T (bodyOf Tryz.f22) (endK ia io) g1 [1,1,1,0,1,0] [] m
noncomputable def J2 (n m1:Nat):(List (Int×Int))×(List (D_count_Use))×Int×(List (D_count_says))×Int×Int×Unit→Option R:=jR (X n) n T (bodyOf Tryz.f22) (endK ia io) g2 [1,1,1,0,1,0,0,1,1,0,0,1,1,1] [m1]
noncomputable def J3 (n:Nat):(List (D_count_Use))×Unit→Option R:=jR (X n) n T (bodyOf Tryz.f22) (endK ia io) g3 [1,1,1,1] []
noncomputable def f (n:Nat)(s_:D_api_State):Option R:=fRun (X n) n T Tryz.f22 ia io (s_,())
theorem e0 (n:Nat)(s_:D_api_State):f n s_ =
  bnd (F_count_all.f n s_) λu1=>
  J1 n n ([],[],u1.1,((u1.1.length:Nat):Int),0,()):=(hideF_eq _).trans (by kernel_rfl)
theorem e1 (n m:Nat) (at_:List (Int×Int)) (out:List (D_count_Use)) (t11:List (D_count_says)) (t12:Int) (t13:Int):J1 n (m+1) (at_,out,t11,t12,t13,()) =
  bIf ((hide (decide (t13<t12)))) (
    gIf (0≤t13∧t13<((t11.length:Nat):Int)) (
      bIf ((!((mGet (.int .u64) (.int .i64) at_ ((List.getD t11 (0+t13.toNat) (Va.dflt T_count_says)).1)).2))) (
        gIf ((out.length+1)*56≤70368744177664) (
          J2 n m ((mSet (.int .u64) (.int .i64) at_ ((List.getD t11 (0+t13.toNat) (Va.dflt T_count_says)).1) ((out.length:Nat):Int)),(out++([((List.getD t11 (0+t13.toNat) (Va.dflt T_count_says)).1,(0,(((List.getD t11 (0+t13.toNat) (Va.dflt T_count_says)).2).1,((((List.getD t11 (0+t13.toNat) (Va.dflt T_count_says)).2).2).1,()))))]:List (D_count_Use))),((out.length:Nat):Int),t11,t12,t13,())
          )
        ) (
        J2 n m (at_,out,(mGet (.int .u64) (.int .i64) at_ ((List.getD t11 (0+t13.toNat) (Va.dflt T_count_says)).1)).1,t11,t12,t13,())
        )
      )
    ) (
    J3 n (out,())
    ):=(hideF_eq _).trans (by kernel_rfl)
theorem e2 (n m1:Nat)(at_:List (Int×Int))(out:List (D_count_Use))(i:Int)(t11:List (D_count_says))(t12:Int)(t13:Int):J2 n m1 (at_,out,i,t11,t12,t13,()) =
  gIf (0≤i∧i<((out.length:Nat):Int)) (
    gIf (0≤i∧i<((out.length:Nat):Int)) (
      J1 n m1 (at_,(List.set out (0+i.toNat) ((List.getD out (0+i.toNat) (Va.dflt T_count_Use)).1,((IntKind.i64.wrap ((((List.getD out (0+i.toNat) (Va.dflt T_count_Use)).2).1)+(1:Int))),((List.getD out (0+i.toNat) (Va.dflt T_count_Use)).2).2))),t11,t12,(IntKind.i64.wrap (t13+(1:Int))),())
      )
    ):=(hideF_eq _).trans (by kernel_rfl)
theorem e3 (n:Nat)(out:List (D_count_Use)):J3 n (out,()) =
  gIf (out.length<4611686018427387904∧Part F_slices_SortFunc_Use.lt out) (
    bnd (F_slices_Clip_Use.f n (sortD F_slices_SortFunc_Use.lt out)) λu1=>
    some (u1.1,())
    ):=(hideF_eq _).trans (by kernel_rfl)
theorem phi (n:Nat):∀ e∈(X n).c.Φ,EntryOk Tryz.prog e:=allE_cons (mkEntry_ok (F_count_all.ok n)) (allE_cons (F_slices_SortFunc_Use.ok) (allE_cons (mkEntry_ok (F_slices_Clip_Use.ok n)) (allE_nil)))
theorem ok (n:Nat):FnOk Tryz.prog 22 ia io (fRun (X n) n T Tryz.f22 ia io):=tree_ok mixed tabIs (phi n) Tryz.func22 (by kernel_rfl) rfl
noncomputable def en (n:Nat):Entry:=mkEntry 22 ia io (fRun (X n) n T Tryz.f22 ia io)
end F_count_Uses
end Go.Proofs.YtemhlkdingkjnaaGreatDoor
namespace Go.Proofs.YtemhlkdingkjnaaGreatDoor
open Go Go.Va Go.Proofs
namespace F_count_Bytes
abbrev ia:List Ai:=[.dat T_api_State]
abbrev io:List (Nat×Oi):=[(2,.dat (.int .i64))]
abbrev R:Type:=DOut ia io
noncomputable def X (n:Nat):Ctx:=⟨⟨tab,[F_count_Uses.en n],0,[]⟩,19,bnOf 0 ia⟩
abbrev g1:List Si:=[.dat 3 (.int .i64),.dat 7 (.slice T_count_Use),.dat 8 (.int .i64),.dat 9 (.int .i64)]
abbrev g2:List Si:=[.dat 3 (.int .i64)]
noncomputable def T:CT:=(.s .o (.s .o (.s (.s .o (.b (.l g1 .o))) (.r g2 .o))))
noncomputable def J1 (n:Nat)(m:Nat):Int×(List (D_count_Use))×Int×Int×Unit→Option R:=jL (X n) n T (bodyOf Tryz.f25) (endK ia io) g1 [1,1,0,1,0] [] m
noncomputable def J2 (n:Nat):Int×Unit→Option R:=jR (X n) n T (bodyOf Tryz.f25) (endK ia io) g2 [1,1,1] []
noncomputable def f (n:Nat)(s_:D_api_State):Option R:=fRun (X n) n T Tryz.f25 ia io (s_,())
theorem e0 (n:Nat)(s_:D_api_State):f n s_ =
  bnd (F_count_Uses.f n s_) λu1=>
  J1 n n (0,u1.1,((u1.1.length:Nat):Int),0,()):=(hideF_eq _).trans (by kernel_rfl)
theorem e1 (n m:Nat)(n_:Int)(t7:List (D_count_Use))(t8:Int)(t9:Int):J1 n (m+1) (n_,t7,t8,t9,()) =
  bIf ((hide (decide (t9<t8)))) (
    gIf (0≤t9∧t9<((t7.length:Nat):Int)) (
      J1 n m ((IntKind.i64.wrap (n_+((((List.getD t7 t9.toNat (Va.dflt T_count_Use)).2).2).1))),t7,t8,(IntKind.i64.wrap (t9+(1:Int))),())
      )
    ) (
    J2 n (n_,())
    ):=(hideF_eq _).trans (by kernel_rfl)
theorem e2 (n:Nat)(n_:Int):J2 n (n_,()) =
  some (n_,()):=(hideF_eq _).trans (by kernel_rfl)
theorem phi (n:Nat):∀ e∈(X n).c.Φ,EntryOk Tryz.prog e:=allE_cons (mkEntry_ok (F_count_Uses.ok n)) (allE_nil)
theorem ok (n:Nat):FnOk Tryz.prog 25 ia io (fRun (X n) n T Tryz.f25 ia io):=tree_ok mixed tabIs (phi n) Tryz.func25 (by kernel_rfl) rfl
noncomputable def en (n:Nat):Entry:=mkEntry 25 ia io (fRun (X n) n T Tryz.f25 ia io)
end F_count_Bytes
end Go.Proofs.YtemhlkdingkjnaaGreatDoor
namespace Go.Proofs.YtemhlkdingkjnaaGreatDoor
open Go Go.Va Go.Proofs
namespace F_law16_awake
abbrev ia:List Ai:=[]
abbrev io:List (Nat×Oi):=[(0,.dat .bool)]
noncomputable def f:Option (DOut ia io):=some (true,())
theorem ok:FnOk Tryz.prog 24 ia io (λ_=>f):=by
  refine leaf_ok ⟨Tryz.f24,Tryz.func24,by kernel_rfl,by kernel_rfl⟩ rfl (λ_=>rfl) (λ_=>rfl) (λv u h E w vals hgl hc => ?_)
  have hc:vals=[]:=hc
  subst hc
  unfold f at h
  injection h with h
  subst h
  refine (Aw16.runs w).mono ?_
  rintro en w' ⟨rfl,hb⟩
  exact⟨_,rfl,hb,λE=>V_bool.2 rfl⟩
noncomputable def en:Entry:=mkEntry 24 ia io (λ_=>f)
end F_law16_awake
end Go.Proofs.YtemhlkdingkjnaaGreatDoor
