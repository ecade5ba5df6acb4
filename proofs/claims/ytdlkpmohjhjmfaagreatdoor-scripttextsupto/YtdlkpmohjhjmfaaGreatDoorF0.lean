/-
  What the functions compute, by the abstract interpreter.
-/
import Derived.Test.YtdlkpmohjhjmfaaGreatDoorVaTree
import Derived.Test.YtdlkpmohjhjmfaaGreatDoorChecked
import Derived.Lib.LaidU8T
import Derived.Lib.ItoaNum
import Derived.Test.YtdlkpmohjhjmfaaGreatDoorVaLeaf
import Derived.Shelf.Unicode.ValidAny
import Derived.Shelf.Small.Strs
import Derived.Shelf.Strings.Split
import Derived.Shelf.Strings.SlTrimAscii
import Derived.Shelf.Strconv.Itoa4
import Derived.Shelf.Strconv.ParseIntPublic10
import Derived.Shelf.Strings.OnBuilder
import Derived.Shelf.Strings.Cut
import Derived.Laws.IdiomRangeMap
import Derived.WalkKit
set_option linter.unusedVariables false
set_option linter.unusedSimpArgs false
namespace Go.Proofs.YtdlkpmohjhjmfaaGreatDoor
open Go Go.Va Go.Proofs
abbrev T_errors_errorString:Ty:=(.pair .str .unit)
abbrev ydn:Ty:=(.pair (.opq 0) .unit)
abbrev yc0:Type:=Unit×Unit
abbrev ybK:Ty:=(.pair (.slice (.int .u8)) .unit)
abbrev yaP:Type:=(List (Int))×Unit
abbrev yaw:Ty:=(.pair .str T_errors_errorString)
abbrev yaz:Type:=ByteArray×ByteArray×Unit
abbrev ybP:Ty:=(.pair ydn .unit)
abbrev ya7:Type:=yc0×Unit
abbrev T_runtime_errorAddressString:Ty:=(.pair .str (.pair (.int .u64) .unit))
abbrev yc8:Ty:=(.pair (.int .i64) (.pair (.int .u8) .unit))
abbrev ybq:Type:=Int×Int×Unit
abbrev yaA:Ty:=(.pair (.int .i64) (.pair (.int .i64) .unit))
abbrev yaL:Type:=Int×Int×Unit
abbrev yaK:Ty:=(.pair (.slice (.int .u8)) (.pair (.int .i64) .unit))
abbrev yam:Type:=(List (Int))×Int×Unit
abbrev ya0:Ty:=(.pair .str T_runtime_errorAddressString)
abbrev ybh:Type:=ByteArray×ByteArray×Int×Unit
abbrev yaO:Ty:=(.pair (.int .i64) (.pair (.int .i64) (.pair .bool .unit)))
abbrev yaZ:Type:=Int×Int×Bool×Unit
abbrev yaD:Ty:=(.pair .bool (.pair .str yaw))
abbrev yat:Type:=Bool×ByteArray×ByteArray×ByteArray×Unit
abbrev T_api_Part:Ty:=(.pair (.int .i64) (.pair (.int .i64) (.pair (.int .u64) (.pair (.arr 32 (.int .u8)) .unit))))
abbrev D_api_Part:Type:=Int×Int×Int×(List (Int))×Unit
abbrev yaC:Ty:=(.pair .str (.pair (.slice yaw) yaO))
abbrev yau:Type:=ByteArray×(List (yaz))×Int×Int×Bool×Unit
abbrev yco:Ty:=(.pair (.int .u64) (.pair .bool (.pair (.int .i64) (.pair (.int .u64) (.pair (.arr 32 (.int .u8)) (.pair (.int .i64) (.pair yaO (.pair (.slice yaw) .unit))))))))
abbrev ybD:Type:=Int×Bool×Int×Int×(List (Int))×Int×yaZ×(List (yaz))×Unit
abbrev ycs:Ty:=(.pair .str (.pair .bool (.pair yco (.pair .bool .unit))))
abbrev ycF:Type:=ByteArray×Bool×ybD×Bool×Unit
abbrev yan:Ty:=(.pair (.int .i64) (.pair .str (.pair .str (.pair .str (.pair (.int .u64) (.pair (.slice (.int .u8)) (.pair (.slice yaw) (.pair yaO (.pair .bool (.pair yaA (.pair (.slice yaC) (.pair (.slice yaD) (.pair (.int .i64) (.pair (.slice (.int .i64)) (.pair .str (.pair .str (.pair .str (.pair ya0 (.pair (.int .i64) .unit)))))))))))))))))))
abbrev yak:Type:=Int×ByteArray×ByteArray×ByteArray×Int×(List (Int))×(List (yaz))×yaZ×Bool×yaL×(List (yau))×(List (yat))×Int×(List (Int))×ByteArray×ByteArray×ByteArray×ybh×Int×Unit
abbrev yci:Ty:=(.pair (.int .i64) (.pair (.int .u64) (.pair (.slice (.int .u8)) (.pair yco (.pair (.slice ycs) (.pair .bool (.pair (.slice (.int .i64)) (.pair (.slice .str) .unit))))))))
abbrev ybU:Type:=Int×Int×(List (Int))×ybD×(List (ycF))×Bool×(List (Int))×(List (ByteArray))×Unit
abbrev ybl:Ty:=(.pair yan (.pair .bool .unit))
abbrev ybo:Type:=yak×Bool×Unit
abbrev yaY:Ty:=(.pair (.int .i64) (.pair yan (.pair (.int .i64) (.pair (.int .i64) (.pair (.slice (.int .i64)) .unit)))))
abbrev yaW:Type:=Int×yak×Int×Int×(List (Int))×Unit
abbrev yfa:Ty:=(.pair (.int .i64) (.pair (.int .i64) (.pair .str (.pair .str (.pair (.int .u64) (.pair yco (.pair yaO (.pair (.slice yaw) (.pair yaA (.pair (.slice yaC) (.pair (.slice yaD) (.pair T_api_Part .unit))))))))))))
abbrev yeO:Type:=Int×Int×ByteArray×ByteArray×Int×ybD×yaZ×(List (yaz))×yaL×(List (yau))×(List (yat))×D_api_Part×Unit
noncomputable def tab:List (Nat×TE):=[(2,⟨(.int .i64),0⟩),(3,⟨(.int .i64),0⟩),(4,⟨.bool,0⟩),(5,⟨(.int .u8),0⟩),(9,⟨.str,0⟩),(22,⟨(.int .u64),0⟩),(23,⟨(.slice (.int .u8)),1⟩),(24,⟨(.slice yaw),32⟩),(25,⟨yaO,0⟩),(26,⟨yaO,0⟩),(27,⟨yaA,0⟩),(28,⟨yaA,0⟩),(29,⟨(.slice yaC),64⟩),(30,⟨(.slice yaD),56⟩),(31,⟨(.slice (.int .i64)),8⟩),(32,⟨ya0,0⟩),(33,⟨ya0,0⟩),(34,⟨yan,0⟩),(35,⟨yan,0⟩),(36,⟨yaY,0⟩),(37,⟨yaY,0⟩),(38,⟨(.int .i64),0⟩),(49,⟨(.slice yaY),384⟩),(52,⟨(.opq 1),0⟩),(53,⟨(.arr 32 (.int .u8)),0⟩),(54,⟨(.arr 32 (.int .u8)),0⟩),(55,⟨yco,0⟩),(56,⟨yco,0⟩),(57,⟨(.slice ycs),152⟩),(58,⟨(.slice .str),16⟩),(59,⟨yci,0⟩),(60,⟨yci,0⟩),(86,⟨ycs,0⟩),(87,⟨ycs,0⟩),(103,⟨.smap,0⟩),(106,⟨(.slice (.int .i64)),8⟩),(111,⟨T_api_Part,0⟩),(112,⟨T_api_Part,0⟩),(113,⟨yfa,0⟩),(114,⟨yfa,0⟩),(116,⟨(.opq 0),0⟩),(117,⟨ydn,0⟩),(118,⟨ydn,0⟩),(120,⟨ybP,0⟩),(121,⟨ybP,0⟩),(128,⟨(.int .u64),0⟩),(159,⟨(.opq 1),0⟩),(161,⟨(.opq 1),0⟩),(166,⟨ybK,0⟩),(167,⟨ybK,0⟩),(175,⟨yaw,0⟩),(176,⟨yaw,0⟩),(179,⟨(.opq 0),0⟩),(180,⟨ybl,0⟩),(181,⟨ybl,0⟩),(187,⟨yaD,0⟩),(188,⟨yaD,0⟩),(197,⟨yaC,0⟩),(198,⟨yaC,0⟩),(200,⟨(.opq 0),0⟩),(201,⟨ydn,0⟩),(202,⟨ydn,0⟩),(204,⟨ybP,0⟩),(205,⟨ybP,0⟩),(207,⟨(.opq 0),0⟩),(216,⟨(.opq 1),0⟩),(225,⟨(.opq 1),0⟩),(231,⟨(.slice yc8),16⟩),(243,⟨yaK,0⟩),(244,⟨yaK,0⟩),(257,⟨(.opq 1),0⟩),(259,⟨(.opq 1),0⟩),(261,⟨yc8,0⟩),(262,⟨yc8,0⟩),(281,⟨(.slice yc8),16⟩),(291,⟨yc8,0⟩),(292,⟨yc8,0⟩)]
noncomputable def firstCells:List Value:=Lib.firstTab.map λz=>Value.int .u8 z
noncomputable def yeS:List Value:=(List.range 16).flatMap λi=>[Value.int .u8 (Lib.accLo i),Value.int .u8 (Lib.accHi i)]
noncomputable def pow10Cells:Array Value:=(Lib.pow10Tab.map λz=>Value.int .u64 z).toArray
def ErrCell (o:Obj):Prop:=∃ ev t fr,o = .cells #[ev] t fr∧(ev = .nilIface∨∃ te pe,ev = .iface te pe)
noncomputable instance:Gl:=⟨[(2,λcs=>cs=firstCells),(3,λcs=>cs=yeS),(0,λcs=>∃ m,cs=[.int .i64 m])],[(1,λo=>∃ t fr,o = .cells pow10Cells t fr),(6,ErrCell),(7,ErrCell)]⟩
theorem tabIs:TabOk Tryz.prog tab:=tabB_ok (by kernel_rfl)
theorem mixed:Tryz.prog.follows .mixedOrders=true:=Tryz.checked.mixed
abbrev zq:yak:=(0,((⟨#[]⟩:ByteArray),((⟨#[]⟩:ByteArray),((⟨#[]⟩:ByteArray),(0,([],([],((0,(0,(false,()))),(false,((0,(0,())),([],([],(0,([],((⟨#[]⟩:ByteArray),((⟨#[]⟩:ByteArray),((⟨#[]⟩:ByteArray),(((⟨#[]⟩:ByteArray),((⟨#[]⟩:ByteArray),(0,()))),(0,())))))))))))))))))))
end Go.Proofs.YtdlkpmohjhjmfaaGreatDoor
namespace Go.Proofs
open Go.Shelf
def Tryz.l146_ren:Go.Shelf.Ren:=⟨fun | 146=>25 | 221=>53 | 268=>99 | 138=>100 | 143=>101 | 195=>159 | 197=>160 | 218=>161 | 219=>105 | 260=>221 | 217=>162 | 225=>163 | 224=>164 | 267=>165 | 266=>222 | 314=>223 | n=>n,fun | 9=>9 | 31=>58 | 3=>3 | 4=>4 | 0=>0 | 105=>212 | 21=>21 | 5=>5 | 46=>128 | 119=>251 | 139=>254 | 138=>253 | 146=>247 | 51=>228 | n=>n,fun | 1=>0 | 3=>2 | 4=>3 | n=>n⟩
theorem Tryz.l146:Go.Proofs.Lays.n146 Tryz.prog Tryz.l146_ren:={
 mixed:=by kernel_rfl
 f138:=Tryz.func100.trans (congrArg some (by kernel_rfl))
 f143:=Tryz.func101.trans (congrArg some (by kernel_rfl))
 f146:=Tryz.func25.trans (congrArg some (by kernel_rfl))
 f195:=Tryz.func159.trans (congrArg some (by kernel_rfl))
 f197:=Tryz.func160.trans (congrArg some (by kernel_rfl))
 f217:=Tryz.func162.trans (congrArg some (by kernel_rfl))
 f218:=Tryz.func161.trans (congrArg some (by kernel_rfl))
 f219:=Tryz.func105.trans (congrArg some (by kernel_rfl))
 f221:=Tryz.func53.trans (congrArg some (by kernel_rfl))
 f224:=Tryz.func164.trans (congrArg some (by kernel_rfl))
 f225:=Tryz.func163.trans (congrArg some (by kernel_rfl))
 f260:=Tryz.func221.trans (congrArg some (by kernel_rfl))
 f266:=Tryz.func222.trans (congrArg some (by kernel_rfl))
 f267:=Tryz.func165.trans (congrArg some (by kernel_rfl))
 f268:=Tryz.func99.trans (congrArg some (by kernel_rfl))
 f314:=Tryz.func223.trans (congrArg some (by kernel_rfl))
 t0:=Tryz.underlying0
 a0:=Tryz.isAgg0
 z0:=Tryz.sizeOf0
 v0:=Tryz.zeroValue0
 t3:=Tryz.underlying3
 a3:=Tryz.isAgg3
 z3:=Tryz.sizeOf3
 v3:=Tryz.zeroValue3
 t4:=Tryz.underlying4
 a4:=Tryz.isAgg4
 z4:=Tryz.sizeOf4
 v4:=Tryz.zeroValue4
 t5:=Tryz.underlying5
 a5:=Tryz.isAgg5
 z5:=Tryz.sizeOf5
 v5:=Tryz.zeroValue5
 t9:=Tryz.underlying9
 a9:=Tryz.isAgg9
 z9:=Tryz.sizeOf9
 v9:=Tryz.zeroValue9
 t21:=Tryz.underlying21
 a21:=Tryz.isAgg21
 z21:=Tryz.sizeOf21
 v21:=Tryz.zeroValue21
 t31:=Tryz.underlying58
 a31:=Tryz.isAgg58
 z31:=Tryz.sizeOf58
 v31:=Tryz.zeroValue58
 t46:=Tryz.underlying128
 a46:=Tryz.isAgg128
 z46:=Tryz.sizeOf128
 v46:=Tryz.zeroValue128
 t51:=Tryz.underlying228
 a51:=Tryz.isAgg228
 z51:=Tryz.sizeOf228
 v51:=Tryz.zeroValue228
 t105:=Tryz.underlying212
 a105:=Tryz.isAgg212
 z105:=Tryz.sizeOf212
 v105:=Tryz.zeroValue212
 t119:=Tryz.underlying251
 a119:=Tryz.isAgg251
 z119:=Tryz.sizeOf251
 t138:=Tryz.underlying253
 a138:=Tryz.isAgg253
 z138:=Tryz.sizeOf253
 v138:=Tryz.zeroValue253
 t139:=Tryz.underlying254
 a139:=Tryz.isAgg254
 z139:=Tryz.sizeOf254
 v139:=Tryz.zeroValue254
 t146:=Tryz.underlying247
 a146:=Tryz.isAgg247
 z146:=Tryz.sizeOf247
 v146:=Tryz.zeroValue247
 g1:=by kernel_rfl
 g3:=by kernel_rfl
 g4:=by kernel_rfl }
def Tryz.l160_ren:Go.Shelf.Ren:=⟨fun | 160=>226 | 232=>245 | 231=>244 | 227=>246 | 234=>248 | 233=>247 | 236=>250 | 235=>249 | 228=>259 | 271=>261 | 151=>260 | 197=>160 | 120=>263 | 152=>262 | 260=>221 | 137=>152 | 119=>264 | 224=>164 | 225=>163 | 217=>162 | 266=>222 | n=>n,fun | 9=>9 | 4=>4 | 3=>3 | 5=>5 | 117=>275 | 116=>274 | 0=>0 | 124=>278 | 21=>21 | 105=>212 | 46=>128 | 119=>251 | 139=>254 | 138=>253 | n=>n,fun | 3=>2 | 4=>3 | n=>n⟩
theorem Tryz.l160:Go.Proofs.Lays.n160 Tryz.prog Tryz.l160_ren:={
 mixed:=by kernel_rfl
 f119:=Tryz.func264.trans (congrArg some (by kernel_rfl))
 f120:=Tryz.func263.trans (congrArg some (by kernel_rfl))
 f137:=Tryz.func152.trans (congrArg some (by kernel_rfl))
 f151:=Tryz.func260.trans (congrArg some (by kernel_rfl))
 f152:=Tryz.func262.trans (congrArg some (by kernel_rfl))
 f160:=Tryz.func226.trans (congrArg some (by kernel_rfl))
 f197:=Tryz.func160.trans (congrArg some (by kernel_rfl))
 f217:=Tryz.func162.trans (congrArg some (by kernel_rfl))
 f224:=Tryz.func164.trans (congrArg some (by kernel_rfl))
 f225:=Tryz.func163.trans (congrArg some (by kernel_rfl))
 f227:=Tryz.func246.trans (congrArg some (by kernel_rfl))
 f228:=Tryz.func259.trans (congrArg some (by kernel_rfl))
 f231:=Tryz.func244.trans (congrArg some (by kernel_rfl))
 f232:=Tryz.func245.trans (congrArg some (by kernel_rfl))
 f233:=Tryz.func247.trans (congrArg some (by kernel_rfl))
 f234:=Tryz.func248.trans (congrArg some (by kernel_rfl))
 f235:=Tryz.func249.trans (congrArg some (by kernel_rfl))
 f236:=Tryz.func250.trans (congrArg some (by kernel_rfl))
 f260:=Tryz.func221.trans (congrArg some (by kernel_rfl))
 f266:=Tryz.func222.trans (congrArg some (by kernel_rfl))
 f271:=Tryz.func261.trans (congrArg some (by kernel_rfl))
 t0:=Tryz.underlying0
 a0:=Tryz.isAgg0
 z0:=Tryz.sizeOf0
 v0:=Tryz.zeroValue0
 t3:=Tryz.underlying3
 a3:=Tryz.isAgg3
 z3:=Tryz.sizeOf3
 v3:=Tryz.zeroValue3
 t4:=Tryz.underlying4
 a4:=Tryz.isAgg4
 z4:=Tryz.sizeOf4
 v4:=Tryz.zeroValue4
 t5:=Tryz.underlying5
 a5:=Tryz.isAgg5
 z5:=Tryz.sizeOf5
 v5:=Tryz.zeroValue5
 t9:=Tryz.underlying9
 a9:=Tryz.isAgg9
 z9:=Tryz.sizeOf9
 v9:=Tryz.zeroValue9
 t21:=Tryz.underlying21
 a21:=Tryz.isAgg21
 z21:=Tryz.sizeOf21
 v21:=Tryz.zeroValue21
 t46:=Tryz.underlying128
 a46:=Tryz.isAgg128
 z46:=Tryz.sizeOf128
 v46:=Tryz.zeroValue128
 t105:=Tryz.underlying212
 a105:=Tryz.isAgg212
 z105:=Tryz.sizeOf212
 v105:=Tryz.zeroValue212
 t116:=Tryz.underlying274
 a116:=Tryz.isAgg274
 z116:=Tryz.sizeOf274
 t117:=Tryz.underlying275
 a117:=Tryz.isAgg275
 z117:=Tryz.sizeOf275
 v117:=Tryz.zeroValue275
 t119:=Tryz.underlying251
 a119:=Tryz.isAgg251
 z119:=Tryz.sizeOf251
 t124:=Tryz.underlying278
 a124:=Tryz.isAgg278
 z124:=Tryz.sizeOf278
 v124:=Tryz.zeroValue278
 t138:=Tryz.underlying253
 a138:=Tryz.isAgg253
 z138:=Tryz.sizeOf253
 v138:=Tryz.zeroValue253
 t139:=Tryz.underlying254
 a139:=Tryz.isAgg254
 z139:=Tryz.sizeOf254
 v139:=Tryz.zeroValue254
 g3:=by kernel_rfl
 g4:=by kernel_rfl }
def Tryz.l196_ren:Go.Shelf.Ren:=⟨fun | 196=>177 | 259=>225 | n=>n,fun | 9=>9 | 4=>4 | 3=>3 | 5=>5 | 12=>12 | 119=>251 | 0=>0 | 46=>128 | 139=>254 | 138=>253 | 53=>22 | n=>n,fun | 3=>2 | 4=>3 | n=>n⟩
theorem Tryz.l196:Go.Proofs.Lays.n196 Tryz.prog Tryz.l196_ren:={
 mixed:=by kernel_rfl
 f196:=Tryz.func177.trans (congrArg some (by kernel_rfl))
 f259:=Tryz.func225.trans (congrArg some (by kernel_rfl))
 t0:=Tryz.underlying0
 a0:=Tryz.isAgg0
 z0:=Tryz.sizeOf0
 v0:=Tryz.zeroValue0
 t3:=Tryz.underlying3
 a3:=Tryz.isAgg3
 z3:=Tryz.sizeOf3
 v3:=Tryz.zeroValue3
 t4:=Tryz.underlying4
 a4:=Tryz.isAgg4
 z4:=Tryz.sizeOf4
 v4:=Tryz.zeroValue4
 t5:=Tryz.underlying5
 a5:=Tryz.isAgg5
 z5:=Tryz.sizeOf5
 v5:=Tryz.zeroValue5
 t9:=Tryz.underlying9
 a9:=Tryz.isAgg9
 z9:=Tryz.sizeOf9
 v9:=Tryz.zeroValue9
 t12:=Tryz.underlying12
 a12:=Tryz.isAgg12
 z12:=Tryz.sizeOf12
 v12:=Tryz.zeroValue12
 t46:=Tryz.underlying128
 a46:=Tryz.isAgg128
 z46:=Tryz.sizeOf128
 v46:=Tryz.zeroValue128
 t53:=Tryz.underlying22
 a53:=Tryz.isAgg22
 z53:=Tryz.sizeOf22
 v53:=Tryz.zeroValue22
 t119:=Tryz.underlying251
 a119:=Tryz.isAgg251
 z119:=Tryz.sizeOf251
 t138:=Tryz.underlying253
 a138:=Tryz.isAgg253
 z138:=Tryz.sizeOf253
 v138:=Tryz.zeroValue253
 t139:=Tryz.underlying254
 a139:=Tryz.isAgg254
 z139:=Tryz.sizeOf254
 v139:=Tryz.zeroValue254
 g3:=by kernel_rfl
 g4:=by kernel_rfl }
def Tryz.l137_ren:Go.Shelf.Ren:=⟨fun | 137=>152 | 217=>162 | 266=>222 | n=>n,fun | 9=>9 | 5=>5 | 3=>3 | n=>n,fun | n=>n⟩
theorem Tryz.l137:Go.Proofs.Lays.n137 Tryz.prog Tryz.l137_ren:={
 mixed:=by kernel_rfl
 f137:=Tryz.func152.trans (congrArg some (by kernel_rfl))
 f217:=Tryz.func162.trans (congrArg some (by kernel_rfl))
 f266:=Tryz.func222.trans (congrArg some (by kernel_rfl))
 t3:=Tryz.underlying3
 a3:=Tryz.isAgg3
 z3:=Tryz.sizeOf3
 v3:=Tryz.zeroValue3
 t5:=Tryz.underlying5
 a5:=Tryz.isAgg5
 z5:=Tryz.sizeOf5
 v5:=Tryz.zeroValue5
 t9:=Tryz.underlying9
 a9:=Tryz.isAgg9
 z9:=Tryz.sizeOf9
 v9:=Tryz.zeroValue9 }
end Go.Proofs
namespace Go.Proofs.YtdlkpmohjhjmfaaGreatDoor
open Go Go.Va Go.Proofs
theorem acc_get:∀ (i:Nat),i<16→yeS[2*i]?=some (Value.int .u8 (Lib.accLo i))∧yeS[2*i+1]?=some (Value.int .u8 (Lib.accHi i))
 | 0,_ | 1,_ | 2,_ | 3,_ | 4,_ | 5,_ | 6,_ | 7,_ | 8,_ | 9,_ | 10,_ | 11,_ | 12,_ | 13,_ | 14,_ | 15,_=>⟨rfl,rfl⟩
 | n+16,h=>absurd h (by omega)
theorem utf8Tabs {E:Env}{w:World}(h:GlOk E w):Lib.Utf8Tabs (Tryz.l196_ren.g 3) (Tryz.l196_ren.g 4) w:=by
 obtain⟨_,c0,e0,h0⟩:=h.1 (2,λcs=>cs=firstCells) (by simp[Gl.tab])
 obtain⟨_,c1,e1,h1⟩:=h.1 (3,λcs=>cs=yeS) (by simp[Gl.tab])
 have e0:c0=firstCells:=e0
 have e1:c1=yeS:=e1
 subst e0 e1
 have h0:=h0.2
 have h1:=h1.2
 refine⟨λc hc => ?_,λi hi => ?_⟩
 ·have:=h0 c (by simp[firstCells,Lib.firstTab];exact hc)
  simp[firstCells,Lib.firstTab]at this
  exact this
 ·have hl:yeS.length=32:=by kernel_rfl
  have a0:=h1 (2*i) (by rw[hl];omega)
  have a1:=h1 (2*i+1) (by rw[hl];omega)
  obtain⟨e0,e1⟩:=acc_get i hi
  rw[List.getElem?_eq_getElem (by rw[hl];omega)]at e0 e1
  simp only[Option.some.injEq]at e0 e1
  simp only[Nat.zero_add]at a0 a1
  rw[e0]at a0
  rw[e1]at a1
  exact⟨a0,a1⟩
theorem maxLen_cell {E:Env}{w:World}(h:GlOk E w):∃ m,w.cell? ⟨Tryz.l146_ren.g 1,0,none⟩=some (.int .i64 m):=by
 obtain⟨_,c,⟨m,e⟩,h2⟩:=h.1 (0,λcs=>∃ m,cs=[.int .i64 m]) (by simp[Gl.tab])
 have e:c=[.int .i64 m]:=e
 subst e
 have:=h2.2 0 (by simp)
 exact⟨m,this⟩
namespace ydd
abbrev ia:List Ai:=[.dat .str]
abbrev io:List (Nat×Oi):=[(2,.dat .bool)]
noncomputable def f (s:ByteArray):Option (DOut ia io):=if s.size≤9223372036854775807 then some (Lib.validD s.data.toList,()) else none
theorem ok:FnOk Tryz.prog 177 ia io (λv=>f v.1):=by
 refine leaf_ok ⟨Tryz.f177,Tryz.func177,by kernel_rfl,by kernel_rfl⟩ rfl (λ_=>rfl) (λ_=>rfl) (λv u h E w vals hgl hc => ?_)
 obtain⟨x,vs,rfl,h1,h3⟩:=hc
 have h3:vs=[]:=h3
 subst h3
 have h1:x = .string v.1:=V_str.1 h1
 subst h1
 unfold f at h
 split at h
 ·next hs=>
  injection h with h
  subst h
  refine (Any.utf8_ValidString Tryz.l196 v.1 w hs (utf8Tabs hgl)).mono ?_
  rintro e w' ⟨rfl,hb⟩
  exact⟨_,rfl,⟨hb.os,hb.tape,hb.output,hb.size,hb.block⟩,λE=>yeI.2 rfl⟩
 ·cases h
noncomputable def en:Entry:=yaB 177 ia io (λv=>f v.1)
end ydd
namespace ycm
abbrev ia:List Ai:=[.dat .str,.dat (.int .u8)]
abbrev io:List (Nat×Oi):=[(4,.dat (.int .i64))]
noncomputable def f (s:ByteArray)(c:Int):Option (DOut ia io):=some (Lib.indexByte s.data.toList c.toNat.toUInt8,())
theorem ok:FnOk Tryz.prog 152 ia io (λv=>f v.1 v.2.1):=by
 refine leaf_ok ⟨Tryz.f152,Tryz.func152,by kernel_rfl,by kernel_rfl⟩ rfl (λ_=>rfl) (λ_=>rfl) (λv u h E w vals hgl hc => ?_)
 obtain⟨x,vs,rfl,h1,y,vs',rfl,h2,h3⟩:=hc
 have h3:vs'=[]:=h3
 subst h3
 have h1:x = .string v.1:=V_str.1 h1
 have h2:y = .int .u8 v.2.1:=V_int.1 h2
 subst h1 h2
 injection h with h
 subst h
 refine (Any.strings_IndexByte Tryz.l137 v.1 v.2.1 w).mono ?_
 rintro e w' ⟨rfl,rfl⟩
 exact⟨_,rfl,.refl _,λE=>V_int.2 rfl⟩
noncomputable def en:Entry:=yaB 152 ia io (λv=>f v.1 v.2.1)
end ycm
namespace yfm
abbrev ia:List Ai:=[.dat .str,.dat .str]
abbrev io:List (Nat×Oi):=[(4,.dat .str)]
noncomputable def f (s c:ByteArray):Option (DOut ia io):=if s.size≤9223372036854775807∧c.size<4294967281∧(∀ b∈c.data.toList,b.toNat<128) then some (⟨(Lib.trimS s.data.toList c.data.toList).toArray⟩,()) else none
theorem zero116 (w:World):(zeroValue (Tryz.l160_ren.t 116)).run Tryz.prog w = .ok (.agg (Array.replicate 256 (.bool false))) w:=by
 have h:Tryz.prog.info? (Tryz.l160_ren.t 116)=some ((Tryz.prog.info? (Tryz.l160_ren.t 116)).getD default):=by kernel_rfl
 have h2:((Tryz.prog.info? (Tryz.l160_ren.t 116)).getD default).zero=some (.agg (Array.replicate 256 (.bool false))):=by kernel_rfl
 simp only[zeroValue,Sem.run_bind,Va.run_typeInfo h,Result.andThen_ok,h2,Sem.run_pure]
theorem ok:FnOk Tryz.prog 226 ia io (λv=>f v.1 v.2.1):=by
 refine leaf_ok ⟨Tryz.f226,Tryz.func226,by kernel_rfl,by kernel_rfl⟩ rfl (λ_=>rfl) (λ_=>rfl) (λv u h E w vals hgl hc => ?_)
 obtain⟨x,vs,rfl,h1,y,vs',rfl,h2,h3⟩:=hc
 have h3:vs'=[]:=h3
 subst h3
 have h1:x = .string v.1:=V_str.1 h1
 have h2:y = .string v.2.1:=V_str.1 h2
 subst h1 h2
 unfold f at h
 split at h
 ·next hs=>
  injection h with h
  subst h
  refine (Any.strings_Trim_ascii Tryz.l160 zero116 (by kernel_rfl) v.1 v.2.1 w hs.1 hs.2.1 (λj b hj=>hs.2.2 b (List.mem_of_getElem? hj))).mono ?_
  rintro e w' ⟨rfl,hb⟩
  exact⟨_,rfl,⟨hb.os,hb.tape,hb.output,hb.size,hb.block⟩,λE=>V_str.2 rfl⟩
 ·cases h
noncomputable def en:Entry:=yaB 226 ia io (λv=>f v.1 v.2.1)
end yfm
namespace yb8
abbrev ia:List Ai:=[.dat .str,.dat .str]
abbrev io:List (Nat×Oi):=[(4,.val (.r 0 .str))]
noncomputable def f (s sep:ByteArray):Option (DOut ia io):=if s.size<4294967281∧1≤sep.size then some (Lib.splitB sep 0 (Lib.countB s sep) s,()) else none
theorem ok:FnOk Tryz.prog 25 ia io (λv=>f v.1 v.2.1):=by
 refine leaf_row_ok ⟨Tryz.f25,Tryz.func25,by kernel_rfl,by kernel_rfl⟩ rfl (λ_=>rfl) (λv u h E w vals hgl hc => ?_)
 obtain⟨x,vs,rfl,h1,y,vs',rfl,h2,h3⟩:=hc
 have h3:vs'=[]:=h3
 subst h3
 have h1:x = .string v.1:=V_str.1 h1
 have h2:y = .string v.2.1:=V_str.1 h2
 subst h1 h2
 unfold f at h
 split at h
 ·next hs=>
  injection h with h
  subst h
  obtain⟨m,hm⟩:=maxLen_cell hgl
  refine (Any.strings_Split Tryz.l146 (by kernel_rfl) v.1 v.2.1 m w hs.1 hm hs.2).mono ?_
  rintro e w' ⟨rfl,rfl⟩
  have hl:=Lib.splitB_all v.2.1 hs.2 0 _ v.1 rfl
  refine⟨_,_,by rw[hl],rfl,λS w' => ?_⟩
  have:∀ l:List ByteArray,RdL (Rd S w' .str) l (l.map Value.string):=by
   intro l
   induction l with
   | nil=>rfl
   | cons x l ih=>exact⟨[.string x],l.map Value.string,rfl,rfl,ih⟩
  exact this _
 ·cases h
noncomputable def en:Entry:=yaB 25 ia io (λv=>f v.1 v.2.1)
end yb8
end Go.Proofs.YtdlkpmohjhjmfaaGreatDoor
namespace Go.Proofs
open Go.Shelf
def Tryz.l156_ren:Go.Shelf.Ren:=⟨fun | 156=>21 | 165=>46 | 166=>40 | 169=>41 | 240=>74 | 241=>79 | 276=>128 | 277=>147 | n=>n,fun | 31=>58 | 9=>9 | 3=>3 | 4=>4 | 0=>0 | 20=>20 | 72=>90 | 76=>94 | 70=>88 | 37=>23 | 75=>93 | 127=>135 | 164=>177 | 5=>5 | 80=>96 | n=>n,fun | n=>n⟩
theorem Tryz.l156:Go.Proofs.Lays.n156 Tryz.prog Tryz.l156_ren:={
 mixed:=by kernel_rfl
 f156:=Tryz.func21.trans (congrArg some (by kernel_rfl))
 f165:=Tryz.func46.trans (congrArg some (by kernel_rfl))
 f166:=Tryz.func40.trans (congrArg some (by kernel_rfl))
 f169:=Tryz.func41.trans (congrArg some (by kernel_rfl))
 f240:=Tryz.func74.trans (congrArg some (by kernel_rfl))
 f241:=Tryz.func79.trans (congrArg some (by kernel_rfl))
 f276:=Tryz.func128.trans (congrArg some (by kernel_rfl))
 f277:=Tryz.func147.trans (congrArg some (by kernel_rfl))
 t0:=Tryz.underlying0
 a0:=Tryz.isAgg0
 z0:=Tryz.sizeOf0
 v0:=Tryz.zeroValue0
 t3:=Tryz.underlying3
 a3:=Tryz.isAgg3
 z3:=Tryz.sizeOf3
 v3:=Tryz.zeroValue3
 t4:=Tryz.underlying4
 a4:=Tryz.isAgg4
 z4:=Tryz.sizeOf4
 v4:=Tryz.zeroValue4
 t9:=Tryz.underlying9
 a9:=Tryz.isAgg9
 z9:=Tryz.sizeOf9
 v9:=Tryz.zeroValue9
 t20:=Tryz.underlying20
 a20:=Tryz.isAgg20
 z20:=Tryz.sizeOf20
 v20:=Tryz.zeroValue20
 t31:=Tryz.underlying58
 a31:=Tryz.isAgg58
 z31:=Tryz.sizeOf58
 v31:=Tryz.zeroValue58
 t37:=Tryz.underlying23
 a37:=Tryz.isAgg23
 z37:=Tryz.sizeOf23
 v37:=Tryz.zeroValue23
 t70:=Tryz.underlying88
 a70:=Tryz.isAgg88
 z70:=Tryz.sizeOf88
 v70:=Tryz.zeroValue88
 t72:=Tryz.underlying90
 a72:=Tryz.isAgg90
 z72:=Tryz.sizeOf90
 v72:=Tryz.zeroValue90
 t75:=Tryz.underlying93
 a75:=Tryz.isAgg93
 z75:=Tryz.sizeOf93
 v75:=Tryz.zeroValue93
 t76:=Tryz.underlying94
 a76:=Tryz.isAgg94
 z76:=Tryz.sizeOf94
 v76:=Tryz.zeroValue94
 t127:=Tryz.underlying135
 a127:=Tryz.isAgg135
 z127:=Tryz.sizeOf135
 v127:=Tryz.zeroValue135
 t164:=Tryz.underlying177
 a164:=Tryz.isAgg177
 z164:=Tryz.sizeOf177
 v164:=Tryz.zeroValue177 }
def Tryz.l145_ren:Go.Shelf.Ren:=⟨fun | 145=>27 | 220=>55 | 219=>105 | 217=>162 | 225=>163 | 224=>164 | 267=>165 | 266=>222 | 314=>223 | n=>n,fun | 9=>9 | 4=>4 | 59=>77 | 3=>3 | 5=>5 | 46=>128 | 146=>247 | 51=>228 | n=>n,fun | 1=>0 | n=>n⟩
theorem Tryz.l145:Go.Proofs.Lays.n145 Tryz.prog Tryz.l145_ren:={
 mixed:=by kernel_rfl
 f145:=Tryz.func27.trans (congrArg some (by kernel_rfl))
 f217:=Tryz.func162.trans (congrArg some (by kernel_rfl))
 f219:=Tryz.func105.trans (congrArg some (by kernel_rfl))
 f220:=Tryz.func55.trans (congrArg some (by kernel_rfl))
 f224:=Tryz.func164.trans (congrArg some (by kernel_rfl))
 f225:=Tryz.func163.trans (congrArg some (by kernel_rfl))
 f266:=Tryz.func222.trans (congrArg some (by kernel_rfl))
 f267:=Tryz.func165.trans (congrArg some (by kernel_rfl))
 f314:=Tryz.func223.trans (congrArg some (by kernel_rfl))
 t3:=Tryz.underlying3
 a3:=Tryz.isAgg3
 z3:=Tryz.sizeOf3
 v3:=Tryz.zeroValue3
 t4:=Tryz.underlying4
 a4:=Tryz.isAgg4
 z4:=Tryz.sizeOf4
 v4:=Tryz.zeroValue4
 t5:=Tryz.underlying5
 a5:=Tryz.isAgg5
 z5:=Tryz.sizeOf5
 v5:=Tryz.zeroValue5
 t9:=Tryz.underlying9
 a9:=Tryz.isAgg9
 z9:=Tryz.sizeOf9
 v9:=Tryz.zeroValue9
 t46:=Tryz.underlying128
 a46:=Tryz.isAgg128
 z46:=Tryz.sizeOf128
 v46:=Tryz.zeroValue128
 t51:=Tryz.underlying228
 a51:=Tryz.isAgg228
 z51:=Tryz.sizeOf228
 v51:=Tryz.zeroValue228
 t59:=Tryz.underlying77
 a59:=Tryz.isAgg77
 z59:=Tryz.sizeOf77
 v59:=Tryz.zeroValue77
 t146:=Tryz.underlying247
 a146:=Tryz.isAgg247
 z146:=Tryz.sizeOf247
 v146:=Tryz.zeroValue247
 g1:=by kernel_rfl }
def Tryz.lM173_ren:Go.Shelf.Ren:=⟨fun | 173=>44 | 246=>78 | 283=>143 | 284=>144 | 285=>145 | 286=>146 | 129=>198 | 317=>197 | 318=>199 | 319=>200 | 320=>201 | 337=>233 | 338=>234 | n=>n,fun | 2=>2 | 3=>3 | 9=>9 | 4=>4 | 171=>190 | 0=>0 | 53=>22 | 37=>23 | 5=>5 | 173=>193 | 212=>227 | 51=>228 | 20=>20 | 213=>229 | 46=>128 | 232=>53 | 233=>284 | n=>n,fun | 17=>1 | 18=>4 | 19=>5 | n=>n⟩
theorem Tryz.lM173:Go.Proofs.LaysM.n173 Tryz.prog Tryz.lM173_ren:={
 mixed:=by kernel_rfl
 f129:=Tryz.func198.trans (congrArg some (by kernel_rfl))
 f173:=Tryz.func44.trans (congrArg some (by kernel_rfl))
 f246:=Tryz.func78.trans (congrArg some (by kernel_rfl))
 f283:=Tryz.func143.trans (congrArg some (by kernel_rfl))
 f284:=Tryz.func144.trans (congrArg some (by kernel_rfl))
 f285:=Tryz.func145.trans (congrArg some (by kernel_rfl))
 f286:=Tryz.func146.trans (congrArg some (by kernel_rfl))
 f317:=Tryz.func197.trans (congrArg some (by kernel_rfl))
 f318:=Tryz.func199.trans (congrArg some (by kernel_rfl))
 f319:=Tryz.func200.trans (congrArg some (by kernel_rfl))
 f320:=Tryz.func201.trans (congrArg some (by kernel_rfl))
 f337:=Tryz.func233.trans (congrArg some (by kernel_rfl))
 f338:=Tryz.func234.trans (congrArg some (by kernel_rfl))
 t0:=Tryz.underlying0
 a0:=Tryz.isAgg0
 z0:=Tryz.sizeOf0
 v0:=Tryz.zeroValue0
 t2:=Tryz.underlying2
 a2:=Tryz.isAgg2
 z2:=Tryz.sizeOf2
 v2:=Tryz.zeroValue2
 t3:=Tryz.underlying3
 a3:=Tryz.isAgg3
 z3:=Tryz.sizeOf3
 v3:=Tryz.zeroValue3
 t4:=Tryz.underlying4
 a4:=Tryz.isAgg4
 z4:=Tryz.sizeOf4
 v4:=Tryz.zeroValue4
 t5:=Tryz.underlying5
 a5:=Tryz.isAgg5
 z5:=Tryz.sizeOf5
 v5:=Tryz.zeroValue5
 t9:=Tryz.underlying9
 a9:=Tryz.isAgg9
 z9:=Tryz.sizeOf9
 v9:=Tryz.zeroValue9
 t20:=Tryz.underlying20
 a20:=Tryz.isAgg20
 z20:=Tryz.sizeOf20
 v20:=Tryz.zeroValue20
 t37:=Tryz.underlying23
 a37:=Tryz.isAgg23
 z37:=Tryz.sizeOf23
 v37:=Tryz.zeroValue23
 t46:=Tryz.underlying128
 a46:=Tryz.isAgg128
 z46:=Tryz.sizeOf128
 v46:=Tryz.zeroValue128
 t51:=Tryz.underlying228
 a51:=Tryz.isAgg228
 z51:=Tryz.sizeOf228
 v51:=Tryz.zeroValue228
 t53:=Tryz.underlying22
 a53:=Tryz.isAgg22
 z53:=Tryz.sizeOf22
 v53:=Tryz.zeroValue22
 t171:=Tryz.underlying190
 a171:=Tryz.isAgg190
 z171:=Tryz.sizeOf190
 v171:=Tryz.zeroValue190
 t173:=Tryz.underlying193
 a173:=Tryz.isAgg193
 z173:=Tryz.sizeOf193
 v173:=Tryz.zeroValue193
 t212:=Tryz.underlying227
 a212:=Tryz.isAgg227
 z212:=Tryz.sizeOf227
 v212:=Tryz.zeroValue227
 t213:=Tryz.underlying229
 a213:=Tryz.isAgg229
 z213:=Tryz.sizeOf229
 t232:=Tryz.underlying53
 a232:=Tryz.isAgg53
 z232:=Tryz.sizeOf53
 v232:=Tryz.zeroValue53
 t233:=Tryz.underlying284
 a233:=Tryz.isAgg284
 z233:=Tryz.sizeOf284
 v233:=Tryz.zeroValue284
 g17:=by kernel_rfl
 g18:=by kernel_rfl
 g19:=by kernel_rfl
 i0:=by kernel_rfl
 i2:=by kernel_rfl
 i3:=by kernel_rfl
 i4:=by kernel_rfl
 i5:=by kernel_rfl
 i9:=by kernel_rfl
 i20:=by kernel_rfl
 i37:=by kernel_rfl
 i46:=by kernel_rfl
 i51:=by kernel_rfl
 i53:=by kernel_rfl
 i171:=by kernel_rfl
 i173:=by kernel_rfl
 i212:=by kernel_rfl
 i232:=by kernel_rfl
 i233:=by kernel_rfl
 m17:=by kernel_rfl
 m18:=by kernel_rfl
 m19:=by kernel_rfl }
def Tryz.lM171_ren:Go.Shelf.Ren:=⟨fun | 171=>30 | 243=>64 | 246=>78 | 283=>143 | 284=>144 | 285=>145 | 286=>146 | 129=>198 | 317=>197 | 318=>199 | 319=>200 | 320=>201 | 337=>233 | 338=>234 | n=>n,fun | 3=>3 | 9=>9 | 2=>2 | 4=>4 | 171=>190 | 0=>0 | 53=>22 | 37=>23 | 5=>5 | 173=>193 | 212=>227 | 51=>228 | 20=>20 | 213=>229 | 46=>128 | 232=>53 | 233=>284 | n=>n,fun | 17=>1 | 18=>4 | 19=>5 | n=>n⟩
theorem Tryz.lM171:Go.Proofs.LaysM.n171 Tryz.prog Tryz.lM171_ren:={
 mixed:=by kernel_rfl
 f129:=Tryz.func198.trans (congrArg some (by kernel_rfl))
 f171:=Tryz.func30.trans (congrArg some (by kernel_rfl))
 f243:=Tryz.func64.trans (congrArg some (by kernel_rfl))
 f246:=Tryz.func78.trans (congrArg some (by kernel_rfl))
 f283:=Tryz.func143.trans (congrArg some (by kernel_rfl))
 f284:=Tryz.func144.trans (congrArg some (by kernel_rfl))
 f285:=Tryz.func145.trans (congrArg some (by kernel_rfl))
 f286:=Tryz.func146.trans (congrArg some (by kernel_rfl))
 f317:=Tryz.func197.trans (congrArg some (by kernel_rfl))
 f318:=Tryz.func199.trans (congrArg some (by kernel_rfl))
 f319:=Tryz.func200.trans (congrArg some (by kernel_rfl))
 f320:=Tryz.func201.trans (congrArg some (by kernel_rfl))
 f337:=Tryz.func233.trans (congrArg some (by kernel_rfl))
 f338:=Tryz.func234.trans (congrArg some (by kernel_rfl))
 t0:=Tryz.underlying0
 a0:=Tryz.isAgg0
 z0:=Tryz.sizeOf0
 v0:=Tryz.zeroValue0
 t2:=Tryz.underlying2
 a2:=Tryz.isAgg2
 z2:=Tryz.sizeOf2
 v2:=Tryz.zeroValue2
 t3:=Tryz.underlying3
 a3:=Tryz.isAgg3
 z3:=Tryz.sizeOf3
 v3:=Tryz.zeroValue3
 t4:=Tryz.underlying4
 a4:=Tryz.isAgg4
 z4:=Tryz.sizeOf4
 v4:=Tryz.zeroValue4
 t5:=Tryz.underlying5
 a5:=Tryz.isAgg5
 z5:=Tryz.sizeOf5
 v5:=Tryz.zeroValue5
 t9:=Tryz.underlying9
 a9:=Tryz.isAgg9
 z9:=Tryz.sizeOf9
 v9:=Tryz.zeroValue9
 t20:=Tryz.underlying20
 a20:=Tryz.isAgg20
 z20:=Tryz.sizeOf20
 v20:=Tryz.zeroValue20
 t37:=Tryz.underlying23
 a37:=Tryz.isAgg23
 z37:=Tryz.sizeOf23
 v37:=Tryz.zeroValue23
 t46:=Tryz.underlying128
 a46:=Tryz.isAgg128
 z46:=Tryz.sizeOf128
 v46:=Tryz.zeroValue128
 t51:=Tryz.underlying228
 a51:=Tryz.isAgg228
 z51:=Tryz.sizeOf228
 v51:=Tryz.zeroValue228
 t53:=Tryz.underlying22
 a53:=Tryz.isAgg22
 z53:=Tryz.sizeOf22
 v53:=Tryz.zeroValue22
 t171:=Tryz.underlying190
 a171:=Tryz.isAgg190
 z171:=Tryz.sizeOf190
 v171:=Tryz.zeroValue190
 t173:=Tryz.underlying193
 a173:=Tryz.isAgg193
 z173:=Tryz.sizeOf193
 v173:=Tryz.zeroValue193
 t212:=Tryz.underlying227
 a212:=Tryz.isAgg227
 z212:=Tryz.sizeOf227
 v212:=Tryz.zeroValue227
 t213:=Tryz.underlying229
 a213:=Tryz.isAgg229
 z213:=Tryz.sizeOf229
 t232:=Tryz.underlying53
 a232:=Tryz.isAgg53
 z232:=Tryz.sizeOf53
 v232:=Tryz.zeroValue53
 t233:=Tryz.underlying284
 a233:=Tryz.isAgg284
 z233:=Tryz.sizeOf284
 v233:=Tryz.zeroValue284
 g17:=by kernel_rfl
 g18:=by kernel_rfl
 g19:=by kernel_rfl
 i0:=by kernel_rfl
 i2:=by kernel_rfl
 i3:=by kernel_rfl
 i4:=by kernel_rfl
 i5:=by kernel_rfl
 i9:=by kernel_rfl
 i20:=by kernel_rfl
 i37:=by kernel_rfl
 i46:=by kernel_rfl
 i51:=by kernel_rfl
 i53:=by kernel_rfl
 i171:=by kernel_rfl
 i173:=by kernel_rfl
 i212:=by kernel_rfl
 i232:=by kernel_rfl
 i233:=by kernel_rfl
 m17:=by kernel_rfl
 m18:=by kernel_rfl
 m19:=by kernel_rfl }
def Tryz.lC174_ren:Go.Shelf.Ren:=⟨fun | 174=>158 | 247=>219 | 245=>220 | 287=>239 | 279=>240 | 280=>241 | 281=>242 | 282=>243 | 321=>255 | 322=>256 | 316=>257 | 171=>30 | 205=>258 | 243=>64 | 246=>78 | 283=>143 | 284=>144 | 285=>145 | 286=>146 | 129=>198 | 317=>197 | 318=>199 | 319=>200 | 320=>201 | 337=>233 | 338=>234 | n=>n,fun | 9=>9 | 3=>3 | 2=>2 | 75=>93 | 85=>209 | 4=>4 | 167=>266 | 5=>5 | 53=>22 | 175=>267 | 46=>128 | 168=>269 | 37=>23 | 0=>0 | 210=>288 | 21=>21 | 127=>135 | 145=>295 | 143=>293 | 171=>190 | 173=>193 | 212=>227 | 51=>228 | 20=>20 | 213=>229 | 232=>53 | 233=>284 | 80=>96 | n=>n,fun | 15=>6 | 16=>7 | 17=>1 | 18=>4 | 19=>5 | n=>n⟩
theorem Tryz.lC174:Go.Proofs.LaysC.n174 Tryz.prog Tryz.lC174_ren:={
 mixed:=by kernel_rfl
 f129:=Tryz.func198.trans (congrArg some (by kernel_rfl))
 f171:=Tryz.func30.trans (congrArg some (by kernel_rfl))
 f174:=Tryz.func158.trans (congrArg some (by kernel_rfl))
 f205:=Tryz.func258.trans (congrArg some (by kernel_rfl))
 f243:=Tryz.func64.trans (congrArg some (by kernel_rfl))
 f245:=Tryz.func220.trans (congrArg some (by kernel_rfl))
 f246:=Tryz.func78.trans (congrArg some (by kernel_rfl))
 f247:=Tryz.func219.trans (congrArg some (by kernel_rfl))
 f279:=Tryz.func240.trans (congrArg some (by kernel_rfl))
 f280:=Tryz.func241.trans (congrArg some (by kernel_rfl))
 f281:=Tryz.func242.trans (congrArg some (by kernel_rfl))
 f282:=Tryz.func243.trans (congrArg some (by kernel_rfl))
 f283:=Tryz.func143.trans (congrArg some (by kernel_rfl))
 f284:=Tryz.func144.trans (congrArg some (by kernel_rfl))
 f285:=Tryz.func145.trans (congrArg some (by kernel_rfl))
 f286:=Tryz.func146.trans (congrArg some (by kernel_rfl))
 f287:=Tryz.func239.trans (congrArg some (by kernel_rfl))
 f316:=Tryz.func257.trans (congrArg some (by kernel_rfl))
 f317:=Tryz.func197.trans (congrArg some (by kernel_rfl))
 f318:=Tryz.func199.trans (congrArg some (by kernel_rfl))
 f319:=Tryz.func200.trans (congrArg some (by kernel_rfl))
 f320:=Tryz.func201.trans (congrArg some (by kernel_rfl))
 f321:=Tryz.func255.trans (congrArg some (by kernel_rfl))
 f322:=Tryz.func256.trans (congrArg some (by kernel_rfl))
 f337:=Tryz.func233.trans (congrArg some (by kernel_rfl))
 f338:=Tryz.func234.trans (congrArg some (by kernel_rfl))
 t0:=Tryz.underlying0
 a0:=Tryz.isAgg0
 z0:=Tryz.sizeOf0
 v0:=Tryz.zeroValue0
 t2:=Tryz.underlying2
 a2:=Tryz.isAgg2
 z2:=Tryz.sizeOf2
 v2:=Tryz.zeroValue2
 t3:=Tryz.underlying3
 a3:=Tryz.isAgg3
 z3:=Tryz.sizeOf3
 v3:=Tryz.zeroValue3
 t4:=Tryz.underlying4
 a4:=Tryz.isAgg4
 z4:=Tryz.sizeOf4
 v4:=Tryz.zeroValue4
 t5:=Tryz.underlying5
 a5:=Tryz.isAgg5
 z5:=Tryz.sizeOf5
 v5:=Tryz.zeroValue5
 t9:=Tryz.underlying9
 a9:=Tryz.isAgg9
 z9:=Tryz.sizeOf9
 v9:=Tryz.zeroValue9
 t20:=Tryz.underlying20
 a20:=Tryz.isAgg20
 z20:=Tryz.sizeOf20
 v20:=Tryz.zeroValue20
 t21:=Tryz.underlying21
 a21:=Tryz.isAgg21
 z21:=Tryz.sizeOf21
 v21:=Tryz.zeroValue21
 t37:=Tryz.underlying23
 a37:=Tryz.isAgg23
 z37:=Tryz.sizeOf23
 v37:=Tryz.zeroValue23
 t46:=Tryz.underlying128
 a46:=Tryz.isAgg128
 z46:=Tryz.sizeOf128
 v46:=Tryz.zeroValue128
 t51:=Tryz.underlying228
 a51:=Tryz.isAgg228
 z51:=Tryz.sizeOf228
 v51:=Tryz.zeroValue228
 t53:=Tryz.underlying22
 a53:=Tryz.isAgg22
 z53:=Tryz.sizeOf22
 v53:=Tryz.zeroValue22
 t75:=Tryz.underlying93
 a75:=Tryz.isAgg93
 z75:=Tryz.sizeOf93
 v75:=Tryz.zeroValue93
 t85:=Tryz.underlying209
 a85:=Tryz.isAgg209
 z85:=Tryz.sizeOf209
 v85:=Tryz.zeroValue209
 t127:=Tryz.underlying135
 a127:=Tryz.isAgg135
 z127:=Tryz.sizeOf135
 v127:=Tryz.zeroValue135
 t143:=Tryz.underlying293
 a143:=Tryz.isAgg293
 z143:=Tryz.sizeOf293
 v143:=Tryz.zeroValue293
 t145:=Tryz.underlying295
 a145:=Tryz.isAgg295
 z145:=Tryz.sizeOf295
 v145:=Tryz.zeroValue295
 t167:=Tryz.underlying266
 a167:=Tryz.isAgg266
 z167:=Tryz.sizeOf266
 v167:=Tryz.zeroValue266
 t168:=Tryz.underlying269
 a168:=Tryz.isAgg269
 z168:=Tryz.sizeOf269
 v168:=Tryz.zeroValue269
 t171:=Tryz.underlying190
 a171:=Tryz.isAgg190
 z171:=Tryz.sizeOf190
 v171:=Tryz.zeroValue190
 t173:=Tryz.underlying193
 a173:=Tryz.isAgg193
 z173:=Tryz.sizeOf193
 v173:=Tryz.zeroValue193
 t175:=Tryz.underlying267
 a175:=Tryz.isAgg267
 z175:=Tryz.sizeOf267
 v175:=Tryz.zeroValue267
 t210:=Tryz.underlying288
 a210:=Tryz.isAgg288
 z210:=Tryz.sizeOf288
 v210:=Tryz.zeroValue288
 t212:=Tryz.underlying227
 a212:=Tryz.isAgg227
 z212:=Tryz.sizeOf227
 v212:=Tryz.zeroValue227
 t213:=Tryz.underlying229
 a213:=Tryz.isAgg229
 z213:=Tryz.sizeOf229
 t232:=Tryz.underlying53
 a232:=Tryz.isAgg53
 z232:=Tryz.sizeOf53
 v232:=Tryz.zeroValue53
 t233:=Tryz.underlying284
 a233:=Tryz.isAgg284
 z233:=Tryz.sizeOf284
 v233:=Tryz.zeroValue284
 g15:=by kernel_rfl
 g16:=by kernel_rfl
 g17:=by kernel_rfl
 g18:=by kernel_rfl
 g19:=by kernel_rfl
 t80:=Tryz.underlying96
 a80:=Tryz.isAgg96
 z80:=Tryz.sizeOf96
 v80:=Tryz.zeroValue96
 i0:=by kernel_rfl
 i2:=by kernel_rfl
 i3:=by kernel_rfl
 i4:=by kernel_rfl
 i5:=by kernel_rfl
 i9:=by kernel_rfl
 i20:=by kernel_rfl
 i21:=by kernel_rfl
 i37:=by kernel_rfl
 i46:=by kernel_rfl
 i51:=by kernel_rfl
 i53:=by kernel_rfl
 i75:=by kernel_rfl
 i80:=by kernel_rfl
 i85:=by kernel_rfl
 i127:=by kernel_rfl
 i143:=by kernel_rfl
 i145:=by kernel_rfl
 i167:=by kernel_rfl
 i168:=by kernel_rfl
 i171:=by kernel_rfl
 i173:=by kernel_rfl
 i175:=by kernel_rfl
 i210:=by kernel_rfl
 i212:=by kernel_rfl
 i232:=by kernel_rfl
 i233:=by kernel_rfl
 m15:=by kernel_rfl
 m16:=by kernel_rfl
 m17:=by kernel_rfl
 m18:=by kernel_rfl
 m19:=by kernel_rfl
 c0:=by kernel_rfl
 c2:=by kernel_rfl
 c3:=by kernel_rfl
 c4:=by kernel_rfl
 c5:=by kernel_rfl
 c9:=by kernel_rfl
 c20:=by kernel_rfl
 c21:=by kernel_rfl
 c37:=by kernel_rfl
 c46:=by kernel_rfl
 c51:=by kernel_rfl
 c53:=by kernel_rfl
 c75:=by kernel_rfl
 c80:=by kernel_rfl
 c85:=by kernel_rfl
 c127:=by kernel_rfl
 c143:=by kernel_rfl
 c145:=by kernel_rfl
 c167:=by kernel_rfl
 c168:=by kernel_rfl
 c171:=by kernel_rfl
 c173:=by kernel_rfl
 c175:=by kernel_rfl
 c210:=by kernel_rfl
 c212:=by kernel_rfl
 c213:=by kernel_rfl
 c232:=by kernel_rfl
 c233:=by kernel_rfl }
end Go.Proofs
namespace Go.Proofs.YtdlkpmohjhjmfaaGreatDoor
open Go Go.Va Go.Proofs Go.RowKit
theorem growOf (w:World)(k:Nat)(os:Array Obj):Grow w (Sort.grow (w.drewN k) os):=⟨rfl,rfl,rfl,by simp[Sort.grow,World.drewN],λb hb=>by
 show (w.heap++os)[b]?=_
 rw[Array.getElem?_append_left hb]⟩
theorem growDrew (w:World)(k:Nat):Grow w (w.drewN k):=⟨rfl,rfl,rfl,Nat.le_refl _,λ_ _=>rfl⟩
theorem growBelow {w w':World}(hb:Below w.heap.size w w'):Grow w w':=⟨hb.os,hb.tape,hb.output,hb.size,hb.block⟩
theorem pow10_tab {E : Env} {w : World} (h : GlOk E w) : Lib.TabIs Tryz.prog w "internal/strconv.uint64pow10" .u64 Lib.pow10Tab := by
 obtain⟨_,o,h1,t,fr,rfl⟩:=h.2 (1,λo=>∃ t fr,o = .cells pow10Cells t fr) (by simp[Gl.ex])
 unfold Lib.TabIs World.var?
 rw [show Tryz.prog.globalNamed "internal/strconv.uint64pow10" = some 1 from by kernel_rfl, Option.bind_some, h1]
 rfl
theorem err_cell {E:Env}{w:World}(h:GlOk E w)(g:Nat)(hg:g=6∨g=7):∃ ev,w.cell? ⟨g,0,none⟩=some ev∧(ev = .nilIface∨∃ te pe,ev = .iface te pe):=by
 have hm:(g,ErrCell)∈Gl.ex:=by rcases hg with rfl | rfl<;>simp[Gl.ex]
 obtain⟨_,o,h1,ev,t,fr,rfl,h2⟩:=h.2 _ hm
 exact⟨ev,by simp[World.cell?,h1],h2⟩
def itoaB (n:Int):ByteArray:=⟨(Lib.itoa n).toArray⟩
def joinB (l:List ByteArray)(s:ByteArray):List UInt8:=Lib.join (l.map (·.data.toList)) s.data.toList
namespace ydt
abbrev ia:List Ai:=[.dat (.int .i64),.dat (.int .i64)]
abbrev io:List (Nat×Oi):=[(4,.dat .str)]
noncomputable def f (n b:Int):Option (DOut ia io):=if b=10 ∧ -9223372036854775808≤n∧n≤9223372036854775807 then some (itoaB n,()) else none
theorem ok:FnOk Tryz.prog 44 ia io (λv=>f v.1 v.2.1):=by
 refine leaf_ok ⟨Tryz.f44,Tryz.func44,by kernel_rfl,by kernel_rfl⟩ rfl (λ_=>rfl) (λ_=>rfl) (λv u h E w vals hgl hc => ?_)
 obtain⟨x,vs,rfl,h1,y,vs',rfl,h2,h3⟩:=hc
 have h3:vs'=[]:=h3
 subst h3
 have h1:x = .int .i64 v.1:=V_int.1 h1
 have h2:y = .int .i64 v.2.1:=V_int.1 h2
 subst h1 h2
 unfold f at h
 split at h
 ·next hs=>
  injection h with h
  subst h
  rw[hs.1]
  refine (Any.strconv_FormatInt_10 Tryz.lM173 v.1 hs.2.1 hs.2.2 w (pow10_tab hgl)).mono ?_
  rintro e w' ⟨rfl,k,os,rfl⟩
  exact⟨_,rfl,growOf w k os,λE=>V_str.2 rfl⟩
 ·cases h
noncomputable def en:Entry:=yaB 44 ia io (λv=>f v.1 v.2.1)
end ydt
namespace ydl
abbrev ia:List Ai:=[.dat (.int .i64)]
abbrev io:List (Nat×Oi):=[(2,.dat .str)]
noncomputable def f (n:Int):Option (DOut ia io):=if -9223372036854775808≤n∧n≤9223372036854775807 then some (itoaB n,()) else none
theorem ok:FnOk Tryz.prog 30 ia io (λv=>f v.1):=by
 refine leaf_ok ⟨Tryz.f30,Tryz.func30,by kernel_rfl,by kernel_rfl⟩ rfl (λ_=>rfl) (λ_=>rfl) (λv u h E w vals hgl hc => ?_)
 obtain⟨x,vs,rfl,h1,h3⟩:=hc
 have h3:vs=[]:=h3
 subst h3
 have h1:x = .int .i64 v.1:=V_int.1 h1
 subst h1
 unfold f at h
 split at h
 ·next hs=>
  injection h with h
  subst h
  refine (Any.strconv_Itoa Tryz.lM171 v.1 hs.1 hs.2 w (pow10_tab hgl)).mono ?_
  rintro e w' ⟨rfl,k,os,rfl⟩
  exact⟨_,rfl,growOf w k os,λE=>V_str.2 rfl⟩
 ·cases h
noncomputable def en:Entry:=yaB 30 ia io (λv=>f v.1)
end ydl
theorem rdl_str {S:Nat→Prop}{w:World}:∀ (l:List ByteArray) (cs:List Value),RdL (Rd S w .str) l cs→cs=l.map Value.string
 | [],cs,h=>h
 | x::l,cs,h=>by
  obtain⟨c1,c2,rfl,h1,h2⟩:=h
  have h1:c1=[.string x]:=h1
  rw[h1,rdl_str l c2 h2];rfl
theorem extra156:Builder.Extra Tryz.prog Tryz.l156_ren:={ sizeBuilder:=by kernel_rfl,liesBuilder:=by kernel_rfl,t5:=by kernel_rfl,a5:=λw=>by kernel_rfl,z5:=λw=>by kernel_rfl,v5:=λw=>by kernel_rfl,infoByte:=by kernel_rfl,cellsByte:=by kernel_rfl,sizeByte:=by kernel_rfl,neB5:=by decide }
namespace yeX
abbrev ia:List Ai:=[.dat (.slice .str),.dat .str]
abbrev io:List (Nat×Oi):=[(4,.dat .str)]
noncomputable def f (l:List ByteArray)(s:ByteArray):Option (DOut ia io):=if l.length≤140737488355328∧(joinB l s).length≤140737488355328 then some (⟨(joinB l s).toArray⟩,()) else none
theorem ok:FnOk Tryz.prog 21 ia io (λv=>f v.1 v.2.1):=by
 refine leaf_ok ⟨Tryz.f21,Tryz.func21,by kernel_rfl,by kernel_rfl⟩ rfl (λ_=>rfl) (λ_=>rfl) (λv u h E w vals hgl hc => ?_)
 obtain⟨x,vs,rfl,h1,y,vs',rfl,h2,h3⟩:=hc
 have h3:vs'=[]:=h3
 subst h3
 have h1:Rd E.S w (.slice .str) v.1 [x]:=h1
 have h2:y = .string v.2.1:=V_str.1 h2
 subst h2
 unfold f at h
 split at h
 ·next hs=>
  injection h with h
  subst h
  obtain⟨a,cap,h4,h5,h6⟩:=h1
  injection h4 with h4
  subst h4
  rcases h6 with h6 | ⟨ad,rfl,_,cells,h7,h8⟩
  ·have e0:v.1=[]:=h6
   rw[e0]
   refine (Any.strings_Join_none Tryz.l156 extra156 a cap v.2.1 w).mono ?_
   rintro e w' ⟨rfl,rfl⟩
   exact⟨_,rfl,.refl _,λE=>V_str.2 rfl⟩
  ·have e1:=rdl_str _ _ h7
   subst e1
   rcases Nat.eq_zero_or_pos v.1.length with hl | hl
   ·have e0:v.1=[]:=List.eq_nil_of_length_eq_zero hl
    rw[e0]
    refine (Any.strings_Join_none Tryz.l156 extra156 (some ad) cap v.2.1 w).mono ?_
    rintro e w' ⟨rfl,rfl⟩
    exact⟨_,rfl,.refl _,λE=>V_str.2 rfl⟩
   ·have h9:∀ (j:Nat) x,v.1[j]?=some x→w.cell? ⟨ad.block,ad.off+j,none⟩=some (.string x):=by
     intro j x hj
     obtain⟨hj2,hj3⟩:=List.getElem?_eq_some_iff.1 hj
     rw[h8.2 j (by rw[List.length_map];exact hj2),List.getElem_map,hj3]
    have h10:ad=⟨ad.block,ad.off,none⟩:=by
     have:=h8.1
     cases ad;dsimp only at this;rw[this]
    have h11:=cell?_lt (h9 0 v.1[0] (List.getElem?_eq_getElem hl))
    rw[h10]
    refine (Any.strings_Join Tryz.l156 extra156 ad.block ad.off cap v.1 v.2.1 w h9 h11 hs.1 h5 hs.2).mono ?_
    rintro e w' ⟨rfl,hb⟩
    exact⟨_,rfl,growBelow hb,λE=>V_str.2 rfl⟩
 ·cases h
noncomputable def en:Entry:=yaB 21 ia io (λv=>f v.1 v.2.1)
end yeX
theorem V_tup3 {E:Env}{w:World}{a b:ByteArray}{c:Bool}:V E w (.tup (.cons (.data .str a) (.cons (.data .str b) (.cons (.data .bool c) .done)))) (.tuple #[.string a,.string b,.bool c]):=by
 rw[V_one rfl]
 refine⟨_,rfl,_,_,rfl,?_,_,_,rfl,?_,_,_,rfl,?_,rfl⟩
 ·rw[if_neg (by simp[AV.isAgg,Ty.agg])];rfl
 ·rw[if_neg (by simp[AV.isAgg,Ty.agg])];rfl
 ·rw[if_neg (by simp[AV.isAgg,Ty.agg])];rfl
namespace ydU
abbrev ia:List Ai:=[.dat .str,.dat .str]
abbrev io:List (Nat×Oi):=[(4,.dat .str),(5,.dat .str),(6,.dat .bool)]
noncomputable def f (s c:ByteArray):Option (DOut ia io):=if s.size<4294967281 then some (⟨(Lib.cut s.data.toList c.data.toList).1.toArray⟩,⟨(Lib.cut s.data.toList c.data.toList).2.1.toArray⟩,(Lib.cut s.data.toList c.data.toList).2.2,()) else none
theorem ok:FnOk Tryz.prog 27 ia io (λv=>f v.1 v.2.1):=by
 refine leaf_ok ⟨Tryz.f27,Tryz.func27,by kernel_rfl,by kernel_rfl⟩ rfl (λ_=>rfl) (λ_=>rfl) (λv u h E w vals hgl hc => ?_)
 obtain⟨x,vs,rfl,h1,y,vs',rfl,h2,h3⟩:=hc
 have h3:vs'=[]:=h3
 subst h3
 have h1:x = .string v.1:=V_str.1 h1
 have h2:y = .string v.2.1:=V_str.1 h2
 subst h1 h2
 unfold f at h
 split at h
 ·next hs=>
  injection h with h
  subst h
  obtain⟨m,hm⟩:=maxLen_cell hgl
  refine (Any.strings_Cut Tryz.l145 v.1 v.2.1 m w hs hm).mono ?_
  rintro e w' ⟨rfl,n,rfl⟩
  refine⟨_,rfl,growDrew w n,λE => ?_⟩
  exact V_tup3
 ·cases h
noncomputable def en:Entry:=yaB 27 ia io (λv=>f v.1 v.2.1)
end ydU
end Go.Proofs.YtdlkpmohjhjmfaaGreatDoor
namespace Go.Proofs.YtdlkpmohjhjmfaaGreatDoor
open Go Go.Va Go.Proofs Go.RowKit
theorem run_mk (w:World):(Instr.makeMap 103 none).run Tryz.prog w = .ok (.map (some w.heap.size)) (w.alloc (.map #[] 0)):=by
 rfl
theorem run_ins (w:World)(es:Array MapEntry)(ck:Nat)(s:ByteArray)(v:Int)(hf:Instr.findNow .string (.string s) es.toList 0=some none) :
  (Instr.mapUpdate 103 (.map (some w.heap.size)) (.string s) (.int .i64 v)).run Tryz.prog (w.alloc (.map es ck)) = .ok () (w.alloc (.map (es.push { key := .string s,val := .int .i64 v,born:=ck }) (ck+1))):=by
 have h1:(w.alloc (.map es ck)).heap[w.heap.size]?=some (.map es ck):=heap_alloc_new w _
 have h2:(getObj w.heap.size).run Tryz.prog (w.alloc (.map es ck)) = .ok (.map es ck) (w.alloc (.map es ck)):=by
  unfold getObj;simp only[Sem.run,h1]
 have h3:∀ b w,(Instr.checkKey b 10000 9 (.string s)).run Tryz.prog w = .ok () w:=by
  intro b w
  unfold Instr.checkKey
  simp only[Sem.run_bind,Va.run_underlying Tryz.underlying9,Result.andThen_ok,Sem.run_pure]
 have h4:∀ w,(Instr.findKey 9 (.string s) es.toList).run Tryz.prog w = .ok none w:=by
  intro w
  unfold Instr.findKey
  simp only[Sem.run_bind,Va.run_underlying Tryz.underlying9,Result.andThen_ok,hf,Sem.run_pure]
 have h5:∀ o,(setObj w.heap.size o).run Tryz.prog (w.alloc (.map es ck)) = .ok () (w.alloc o):=by
  intro o
  unfold setObj
  simp only[Sem.run,h1]
  congr 1
  show ({ w with heap:=(w.heap.push (.map es ck)).setIfInBounds w.heap.size o }:World)={ w with heap:=w.heap.push o }
  congr 1
  apply Array.toList_inj.1
  simp
 unfold Instr.mapUpdate
 simp only[Sem.run_bind,Va.run_underlying Tryz.underlying103,Result.andThen_ok,h2,h3,h4,h5]
def yeD:Array MapEntry := #[{ key := .string ⟨#[111,112,101,110]⟩,val := .int .i64 1,born:=0 },{ key := .string ⟨#[115,119,101,101,112]⟩,val := .int .i64 4,born:=1 },{ key := .string ⟨#[99,111,108,108,101,99,116]⟩,val := .int .i64 5,born:=2 },{ key := .string ⟨#[99,104,101,99,107]⟩,val := .int .i64 6,born:=3 }]
def wordsL:List (ByteArray×Int):=[(⟨#[111,112,101,110]⟩,1),(⟨#[115,119,101,101,112]⟩,4),(⟨#[99,111,108,108,101,99,116]⟩,5),(⟨#[99,104,101,99,107]⟩,6)]
set_option maxRecDepth 100000 in
theorem words_walk (w:World):Calls Tryz.prog 49 #[] w λe w'=>e = .returned (.map (some w.heap.size))∧w'=w.alloc (.map yeD 4):=by
 have mixed:=mixed
 have hm:=run_mk
 have i1:=run_ins w #[] 0 ⟨#[111,112,101,110]⟩ 1 rfl
 have i2:=run_ins w #[{ key := .string ⟨#[111,112,101,110]⟩,val := .int .i64 1,born:=0 }] 1 ⟨#[115,119,101,101,112]⟩ 4 (by kernel_rfl)
 have i3:=run_ins w #[{ key := .string ⟨#[111,112,101,110]⟩,val := .int .i64 1,born:=0 },{ key := .string ⟨#[115,119,101,101,112]⟩,val := .int .i64 4,born:=1 }] 2 ⟨#[99,111,108,108,101,99,116]⟩ 5 (by kernel_rfl)
 have i4:=run_ins w #[{ key := .string ⟨#[111,112,101,110]⟩,val := .int .i64 1,born:=0 },{ key := .string ⟨#[115,119,101,101,112]⟩,val := .int .i64 4,born:=1 },{ key := .string ⟨#[99,111,108,108,101,99,116]⟩,val := .int .i64 5,born:=2 }] 3 ⟨#[99,104,101,99,107]⟩ 6 (by kernel_rfl)
 go_enter Tryz.func49,Tryz.ntmps49
 go_wp2
 go_ret
 exact⟨rfl,rfl⟩
namespace ydS
abbrev ia:List Ai:=[]
abbrev io:List (Nat×Oi):=[(0,.dat .smap)]
noncomputable def f:Option (DOut ia io):=some (wordsL,())
theorem ok:FnOk Tryz.prog 49 ia io (λ_=>f):=by
 refine leaf_map_ok ⟨Tryz.f49,Tryz.func49,by kernel_rfl,by kernel_rfl⟩ (λ_=>rfl) (λ_=>rfl) rfl (λv u h E w vals hgl hc => ?_)
 have hc:vals=[]:=hc
 subst hc
 injection h with h
 subst h
 refine (words_walk w).mono ?_
 rintro e w' ⟨rfl,rfl⟩
 refine⟨_,w.heap.size,rfl,Grow.alloc w _,Nat.le_refl _,by show w.heap.size<(w.heap.push _).size;simp,λS hS => ?_⟩
 simp only[Rd]
 exact .inr ⟨w.heap.size,yeD,4,rfl,hS,heap_alloc_new w _,rfl⟩
noncomputable def en:Entry:=yaB 49 ia io (λ_=>f)
end ydS
def wordB (k:Int):ByteArray:=if k=1 then ⟨#[111,112,101,110]⟩ else if k=4 then ⟨#[115,119,101,101,112]⟩ else if k=5 then ⟨#[99,111,108,108,101,99,116]⟩ else if k=6 then ⟨#[99,104,101,99,107]⟩ else ⟨#[]⟩
theorem word_hit {k:Int}:∀ x∈yeD.toList,x.val = .int .i64 k→x.key = .string (wordB k):=by
 intro x hx hv
 simp only[yeD,List.mem_cons,List.not_mem_nil,or_false]at hx
 rcases hx with rfl | rfl | rfl | rfl<;>(injection hv with _ hv;subst hv;rfl)
theorem word_miss {k:Int}(h:∀ x∈yeD.toList,x.val ≠ .int .i64 k):wordB k=⟨#[]⟩:=by
 have h1:=h _ (.head _)
 have h2:=h _ (.tail _ (.head _))
 have h3:=h _ (.tail _ (.tail _ (.head _)))
 have h4:=h _ (.tail _ (.tail _ (.tail _ (.head _))))
 unfold wordB
 rw[if_neg (λe=>h1 (by rw[e])),if_neg (λe=>h2 (by rw[e])),if_neg (λe=>h3 (by rw[e])),if_neg (λe=>h4 (by rw[e]))]
theorem words_born:(yeD.toList.map (·.born)).Nodup:=by decide
theorem choose_run (P:Program)(q:Question)(w:World):∃ j k,(choose q).run P w = .ok j (w.drewN k):=by
 unfold choose
 simp only[Sem.run]
 split
 ·exact⟨_,0,rfl⟩
 ·exact⟨_,1,rfl⟩
theorem next_tape {P:Program}{w w':World}{r m since last:Nat}{seen:Array Nat}{es:Array MapEntry}{ck:Nat}{ty:TypeId}{a:Value}(h1:w.heap[r]?=some (.mapIter (some m) since seen last))(h2:w.heap[m]?=some (.map es ck))
  (h:(Instr.next (.pointer (some ⟨r,0,none⟩)) false ty).run P w = .ok a w'):w'.tape=w.tape:=by
 have g1:(getObj r).run P w = .ok (.mapIter (some m) since seen last) w:=by unfold getObj;simp only[Sem.run,h1]
 have g2:(getObj m).run P w = .ok (.map es ck) w:=by unfold getObj;simp only[Sem.run,h2]
 have g3:∀ (k:Nat) (o:Obj),(setObj r o).run P (w.drewN k) = .ok () { w.drewN k with heap:=w.heap.setIfInBounds r o }:=by
  intro k o
  have:(w.drewN k).heap[r]?=some (.mapIter (some m) since seen last):=h1
  unfold setObj;simp only[Sem.run,this];rfl
 unfold Instr.next at h
 simp only[Sem.run_bind,g1,g2,Result.andThen_ok]at h
 split at h
 ·simp only[Sem.run_bind]at h
  unfold unsupported at h
  simp only[Sem.run]at h
  exact absurd h (by simp[Result.andThen])
 ·rw[Sem.run_bind]at h
  generalize Question.mapNext _=q at h
  obtain⟨j,k,hc⟩:=choose_run P q w
  rw[hc,Result.andThen_ok]at h
  split at h
  ·rw[Sem.run_bind,g3,Result.andThen_ok,Sem.run_pure]at h
   injection h with _ h
   rw[← h];rfl
  ·rw[Sem.run_pure]at h
   injection h with _ h
   rw[← h];rfl
  ·unfold stuck at h
   simp only[Sem.run]at h
   cases h
set_option maxRecDepth 1000000 in
theorem word_walk (k:Int)(w:World):Calls Tryz.prog 45 #[.int .i64 k] w λe w'=>e = .returned (.string (wordB k))∧Grow w w':=by
 have mixed:=mixed
 have hsz0:(w.alloc (.map yeD 4)).heap.size=w.heap.size+1:=by show (w.heap.push _).size=_;simp
 have hgr:∀ (w1:World) (o:Obj),w1.Alike (w.alloc (.map yeD 4))→w1.tape=w.tape→Grow w (w1.alloc o):=by
  intro w1 o hal ht
  have g1:Grow (w.alloc (.map yeD 4)) w1:=⟨hal.2.1,ht,hal.2.2,by rw[hal.1];exact Nat.le_refl _,λb _=>by rw[hal.1]⟩
  exact ((Grow.alloc w _).trans g1).trans (Grow.alloc w1 o)
 have hb0:(w.alloc (.map yeD 4)).heap[w.heap.size]?=some (.map yeD 4):=heap_alloc_new w _
 have hold:∀ x∈yeD.toList,x.born<4:=by decide
 have hrg:=run_range_map (P:=Tryz.prog) (w.alloc (.map yeD 4)) 103 9 3 w.heap.size yeD 4 Tryz.underlying103 hb0
 go_enter Tryz.func45,Tryz.ntmps45
 go_wp2_with (refine (words_walk w).mono ?_;rintro e w' ⟨rfl,rfl⟩)
 go_loopw [] (λw'=>∃ (w1:World) (seen:Array Nat),w1.Alike (w.alloc (.map yeD 4))∧w1.tape=w.tape∧w'=w1.alloc (.mapIter (some w.heap.size) 4 seen 4)∧∀ x∈yeD.toList,seen.contains x.born=true→x.val ≠ .int .i64 k) (λw'=>(leftOf yeD (w'.iterSeen (w.heap.size+1))).size)
 case atStart=>exact⟨w.alloc (.map yeD 4),#[],⟨rfl,rfl,rfl⟩,rfl,rfl,λx _ h=>by simp at h⟩
 case round=>
  obtain⟨w1,seen,hal,ht,rfl,hno⟩:=hrel
  have hsz:w1.heap.size=(w.alloc (.map yeD 4)).heap.size:=by rw[hal.1]
  have hb1:w1.heap[w.heap.size]?=some (.map yeD 4):=by rw[hal.1];exact hb0
  have law:=run_next_map (P:=Tryz.prog) w1 0 w.heap.size 4 4 seen yeD 4 hb1 hold (Nat.le_refl _)
  have tp:∀ a w2,(Instr.next (.pointer (some ⟨w1.heap.size,0,none⟩)) false 0).run Tryz.prog (w1.alloc (.mapIter (some w.heap.size) 4 seen 4)) = .ok a w2→w2.tape=w1.tape:=λa w2 h=>next_tape (w:=w1.alloc (.mapIter (some w.heap.size) 4 seen 4)) (heap_alloc_new w1 _) ((heap_alloc_old w1 _ (by rw[hsz,hsz0];omega)).trans hb1) h
  rw[hsz,hsz0]at law tp
  rcases law with ⟨h0,hrun⟩ | ⟨e,he,w2,hal2,hrun⟩
  ·have hnx:∀ ty,(Instr.next (.pointer (some ⟨w.heap.size+1,0,none⟩)) false ty).run Tryz.prog (w1.alloc (.mapIter (some w.heap.size) 4 seen 4))=_:=λ_=>hrun
   go_wp2
   go_ret
   rw[word_miss (λx hx=>hno x hx (all_seen yeD seen h0 x hx))]
   exact⟨rfl,hgr w1 _ hal ht⟩
  ·have hal3:w2.Alike (w.alloc (.map yeD 4)):=⟨hal2.1.trans hal.1,hal2.2.1.trans hal.2.1,hal2.2.2.trans hal.2.2⟩
   have ht3:w2.tape=w.tape:=(tp _ _ hrun).trans ht
   obtain⟨v,hval,s,hkey⟩:∃ v,e.val = .int .i64 v∧∃ s,e.key = .string s:=by
    have:=(mem_left he).1
    simp only[yeD,List.mem_cons,List.not_mem_nil,or_false]at this
    rcases this with rfl | rfl | rfl | rfl<;>exact⟨_,rfl,_,rfl⟩
   rw[hval,hkey]at hrun
   have hnx:∀ ty,(Instr.next (.pointer (some ⟨w.heap.size+1,0,none⟩)) false ty).run Tryz.prog (w1.alloc (.mapIter (some w.heap.size) 4 seen 4))=_:=λ_=>hrun
   have hsz2:w2.heap.size=(w.alloc (.map yeD 4)).heap.size:=by rw[hal2.1,hal.1]
   have hb2:w2.heap[w.heap.size]?=some (.map yeD 4):=by rw[hal2.1];exact hb1
   have hen:=run_entry_map (P:=Tryz.prog) w2 w.heap.size 4 seen yeD 4 e hb2 (mem_left he).1 words_born
   rw[hsz2,hsz0,hval,hkey]at hen
   have hw:=word_hit (k:=v) e (mem_left he).1 hval
   rw[hkey]at hw
   injection hw with hw
   go_wp2
   ·rename_i heq
    have heq:v=k:=by simpa using heq
    go_ret
    rw[← heq,← hw]
    exact⟨rfl,hgr w2 _ hal3 ht3⟩
   ·rename_i hne
    have hne:v≠k:=by simpa using hne
    go_roundw
    case rel=>
     refine⟨w2,seen.push e.born,hal3,ht3,rfl,λx hx hc => ?_⟩
     rw[contains_push]at hc
     rcases Bool.or_eq_true _ _ ▸ hc with h1 | h1
     ·exact hno x hx h1
     ·have:x=e:=born_inj words_born hx (mem_left he).1 (beq_iff_eq.1 h1)
      subst this
      rw[hval]
      exact λh=>hne (by injection h)
    case measure=>
     rw[← hsz0,← hsz2,World.iterSeen_alloc,hsz2,← hsz,World.iterSeen_alloc]
     exact left_shrinks yeD seen e he
namespace F_script_word
abbrev ia:List Ai:=[.dat (.int .i64)]
abbrev io:List (Nat×Oi):=[(2,.dat .str)]
noncomputable def f (k:Int):Option (DOut ia io):=some (wordB k,())
theorem ok:FnOk Tryz.prog 45 ia io (λv=>f v.1):=by
 refine leaf_ok ⟨Tryz.f45,Tryz.func45,by kernel_rfl,by kernel_rfl⟩ rfl (λ_=>rfl) (λ_=>rfl) (λv u h E w vals hgl hc => ?_)
 obtain⟨x,vs,rfl,h1,h3⟩:=hc
 have h3:vs=[]:=h3
 subst h3
 have h1:x = .int .i64 v.1:=V_int.1 h1
 subst h1
 injection h with h
 subst h
 refine (word_walk v.1 w).mono ?_
 rintro e w' ⟨rfl,hg⟩
 exact⟨_,rfl,hg,λE=>V_str.2 rfl⟩
noncomputable def en:Entry:=yaB 45 ia io (λv=>f v.1)
end F_script_word
noncomputable def numB (s:ByteArray):Int×Bool:=match Lib.parseIntB 64 s.data.toList with
 | .ok v=>(v,eqS (itoaB v) s)
 | .range=>(Lib.intSat 64 s.data.toList,false)
 | _=>(0,false)
theorem tab_at {w : World} {t : TypeId} {fr : Nat × Nat} (h : w.heap[1]? = some (.cells pow10Cells t fr)) : Lib.TabIs Tryz.prog w "internal/strconv.uint64pow10" .u64 Lib.pow10Tab := by
 unfold Lib.TabIs World.var?
 rw [show Tryz.prog.globalNamed "internal/strconv.uint64pow10" = some 1 from by kernel_rfl, Option.bind_some, h]
 rfl
set_option maxRecDepth 100000 in
theorem number_ok (s:ByteArray)(hs:s.size≤281474976710656)(v:Int)(h:Lib.parseIntB 64 s.data.toList = .ok v)(hv : -9223372036854775808≤v∧v≤9223372036854775807)(w:World)(t:TypeId)(fr:Nat×Nat)(ht:w.heap[1]?=some (.cells pow10Cells t fr)) :
  Calls Tryz.prog 98 #[.string s] w λe w'=>e = .returned (.tuple #[.int .i64 v,.bool (eqS (itoaB v) s)])∧Grow w w':=by
 have mixed:=mixed
 have hp:Calls Tryz.prog 158 #[.string s,.int .i64 10,.int .i64 64] w λe w'=>e = .returned (.tuple #[.int .i64 v,.nilIface])∧Grow w w':=by
  have hq:=Any.strconv_ParseInt_10_at64_ok Tryz.lC174 s (by omega) v h w
  refine Calls.mono hq λe w' hh => ?_
  obtain⟨h1,h2⟩:=hh
  refine⟨h1,?_⟩
  rcases h2 with h2 | ⟨t,h2⟩
  ·rw[h2];exact .refl _
  ·rw[h2];exact growBelow (Lib.bytesWorld_below w _ _)
 have hf:∀ w1,Grow w w1→Calls Tryz.prog 44 #[.int .i64 v,.int .i64 10] w1 λe w'=>e = .returned (.string (itoaB v))∧Grow w w':=by
  intro w1 hg
  have hl:1<w.heap.size:=by
   rcases Nat.lt_or_ge 1 w.heap.size with hl | hl
   ·exact hl
   ·rw[Array.getElem?_eq_none hl]at ht;exact absurd ht (by simp)
  refine (Any.strconv_FormatInt_10 Tryz.lM173 v hv.1 hv.2 w1 (tab_at ((hg.block 1 hl).trans ht))).mono ?_
  rintro e w' ⟨rfl,k,os,rfl⟩
  exact⟨rfl,hg.trans (growOf w1 k os)⟩
 go_enter Tryz.func98,Tryz.ntmps98
 go_wp2_with (first | (refine hp.mono ?_;rintro e w1 ⟨rfl,hg⟩) | (refine (hf _ hg).mono ?_;rintro e w2 ⟨rfl,hg2⟩))
 go_ret2
 exact⟨rfl,hg2⟩
set_option maxRecDepth 100000 in
theorem number_err (s:ByteArray)(n:Int)(w:World)(hp:Calls Tryz.prog 158 #[.string s,.int .i64 10,.int .i64 64] w λe w'=>∃ N,e = .returned (.tuple #[.int .i64 n,.iface (Tryz.lC174_ren.t 168) (.pointer (some ⟨N,0,none⟩))])∧Grow w w') :
  Calls Tryz.prog 98 #[.string s] w λe w'=>e = .returned (.tuple #[.int .i64 n,.bool false])∧Grow w w':=by
 have mixed:=mixed
 go_enter Tryz.func98,Tryz.ntmps98
 go_wp2_with (refine hp.mono ?_;rintro e w1 ⟨N,rfl,hg⟩)
 go_ret2
 exact⟨rfl,hg⟩
namespace ye8
abbrev ia:List Ai:=[.dat .str]
abbrev io:List (Nat×Oi):=[(2,.dat (.int .i64)),(3,.dat .bool)]
noncomputable def f (s:ByteArray):Option (DOut ia io):=if s.size≤281474976710656 then some ((numB s).1,(numB s).2,()) else none
theorem V_tup2 {E:Env}{w:World}{a:Int}{c:Bool}:V E w (.tup (.cons (.data (.int .i64) a) (.cons (.data .bool c) .done))) (.tuple #[.int .i64 a,.bool c]):=by
 rw[V_one rfl]
 refine⟨_,rfl,_,_,rfl,?_,_,_,rfl,?_,rfl⟩
 ·rw[if_neg (by simp[AV.isAgg,Ty.agg])];rfl
 ·rw[if_neg (by simp[AV.isAgg,Ty.agg])];rfl
theorem ok:FnOk Tryz.prog 98 ia io (λv=>f v.1):=by
 refine leaf_ok ⟨Tryz.f98,Tryz.func98,by kernel_rfl,by kernel_rfl⟩ rfl (λ_=>rfl) (λ_=>rfl) (λv u h E w vals hgl hc => ?_)
 obtain⟨x,vs,rfl,h1,h3⟩:=hc
 have h3:vs=[]:=h3
 subst h3
 have h1:x = .string v.1:=V_str.1 h1
 subst h1
 unfold f at h
 split at h
 ·next hs=>
  injection h with h
  subst h
  have key:Calls Tryz.prog 98 #[.string v.1] w λe w'=>e = .returned (.tuple #[.int .i64 (numB v.1).1,.bool (numB v.1).2])∧Grow w w':=by
   unfold numB
   rcases hp:Lib.parseIntB 64 v.1.data.toList with n | _ | _
   ·dsimp only
    have hb:=Lib.parseIntB_bounds hp
    obtain⟨_,o,h1,t,fr,rfl⟩:=hgl.2 (1,λo=>∃ t fr,o = .cells pow10Cells t fr) (by simp[Gl.ex])
    exact number_ok v.1 hs n hp ⟨by omega,by omega⟩ w t fr h1
   ·dsimp only
    obtain⟨ev,h1,h2⟩:=err_cell hgl 6 (.inl rfl)
    refine number_err v.1 0 w (Calls.mono (Any.strconv_ParseInt_10_at64_syntax Tryz.lC174 v.1 hs hp ev w h1 h2) λe w' hh => ?_)
    obtain⟨N,h1,_,_,hb⟩:=hh
    exact⟨N,h1,growBelow hb⟩
   ·dsimp only
    obtain⟨ev,h1,h2⟩:=err_cell hgl 7 (.inr rfl)
    refine number_err v.1 _ w (Calls.mono (Any.strconv_ParseInt_10_at64_range Tryz.lC174 v.1 hs hp ev w h1 h2) λe w' hh => ?_)
    obtain⟨N,h1,_,_,hb⟩:=hh
    exact⟨N,h1,growBelow hb⟩
  refine key.mono ?_
  rintro e w' ⟨rfl,hg⟩
  exact⟨_,rfl,hg,λE=>V_tup2⟩
 ·cases h
noncomputable def en:Entry:=yaB 98 ia io (λv=>f v.1)
end ye8
end Go.Proofs.YtdlkpmohjhjmfaaGreatDoor
namespace Go.Proofs.YtdlkpmohjhjmfaaGreatDoor
open Go Go.Va Go.Proofs
noncomputable section
namespace ybk
abbrev ia:List Ai:=[.dat .str]
abbrev io:List (Nat×Oi):=[(2,.dat .bool)]
abbrev R:Type:=DOut ia io
def X (n:Nat):Ctx:=⟨⟨tab,[ydd.en],0,[]⟩,21,bnOf 0 ia⟩
abbrev g1:List Si:=[.dat 0 .str,.val 6 (.r 200600 (.int .u8)),.dat 7 (.int .i64),.dat 8 (.int .i64)]
abbrev g2:List Si:=[.dat 0 .str]
def T:CT:=(.s .o (.s (.s .o (.b (.l g1 .o))) (.r g2 .o)))
def J1 (n:Nat)(m:Nat):ByteArray×(List (Int))×Int×Int×Unit→Option R:=jL (X n) n T (yaM Tryz.f129) (endK ia io) g1 [1,0,1,0] [] m
def J2 (n:Nat):ByteArray×Unit→Option R:=jR (X n) n T (yaM Tryz.f129) (endK ia io) g2 [1,1] []
def f (n:Nat)(s_:ByteArray):Option R:=fRun (X n) n T Tryz.f129 ia io (s_,())
theorem e0 (n:Nat)(s_:ByteArray):f n s_=J1 n n (s_,(ybN s_),(((ybN s_).length:Nat):Int),0,()):=(yae _).trans (by kernel_rfl)
theorem e1 (n m:Nat)(s_:ByteArray)(t6:List (Int))(t7:Int)(t8:Int):J1 n (m+1) (s_,t6,t7,t8,())=bIf ((hide (decide (t8<t7)))) (gIf (0≤t8∧t8<((t6.length:Nat):Int)) (bIf ((hide (decide ((List.getD t6 (0+t8.toNat) 0)<(32:Int))))) (some (false,())) (bIf ((hide ((List.getD t6 (0+t8.toNat) 0)==(127:Int)))) (some (false,())) (J1 n m (s_,t6,t7,(IntKind.i64.wrap (t8+(1:Int))),()))))) (J2 n (s_,())):=(yae _).trans (by kernel_rfl)
theorem e2 (n:Nat)(s_:ByteArray):J2 n (s_,())=bnd (ydd.f s_) λu1=>some (u1.1,()):=(yae _).trans (by kernel_rfl)
theorem ok (n:Nat):FnOk Tryz.prog 129 ia io (fRun (X n) n T Tryz.f129 ia io):=yaG mixed tabIs (yad (yac (ydd.ok)) (yav)) Tryz.func129 (by kernel_rfl) rfl
def en (n:Nat):Entry:=yaB 129 ia io (fRun (X n) n T Tryz.f129 ia io)
end ybk
namespace yaI
abbrev ia:List Ai:=[.dat .str]
abbrev io:List (Nat×Oi):=[(2,.dat .bool)]
abbrev R:Type:=DOut ia io
def X (n:Nat):Ctx:=⟨⟨tab,[],0,[]⟩,109,bnOf 0 ia⟩
abbrev g1:List Si:=[.dat 0 .str,.dat 3 (.int .i64)]
abbrev g2:List Si:=[.dat 0 .str,.dat 3 (.int .i64),.dat 4 (.int .i64),.dat 21 .bool]
abbrev g3:List Si:=[.dat 0 .str,.dat 3 (.int .i64),.dat 4 (.int .i64),.dat 30 .bool]
abbrev g4:List Si:=[.dat 0 .str,.dat 3 (.int .i64),.dat 4 (.int .i64),.dat 39 .bool]
abbrev g5:List Si:=[.dat 0 .str,.dat 3 (.int .i64),.dat 4 (.int .i64),.dat 5 (.int .i64),.dat 6 (.int .i64),.dat 7 (.int .i64)]
abbrev g6:List Si:=[.dat 0 .str,.dat 3 (.int .i64),.dat 5 (.int .i64),.dat 6 (.int .i64),.dat 7 (.int .i64)]
abbrev g7:List Si:=[.dat 0 .str,.dat 3 (.int .i64),.dat 5 (.int .i64),.dat 6 (.int .i64),.dat 7 (.int .i64),.dat 8 (.int .i64)]
abbrev g8:List Si:=[.dat 0 .str,.dat 3 (.int .i64),.dat 5 (.int .i64),.dat 6 (.int .i64),.dat 7 (.int .i64),.dat 8 (.int .i64)]
abbrev g9:List Si:=[.dat 0 .str,.dat 3 (.int .i64),.dat 5 (.int .i64),.dat 6 (.int .i64),.dat 7 (.int .i64),.dat 8 (.int .i64)]
abbrev g10:List Si:=[.dat 0 .str,.dat 3 (.int .i64),.dat 5 (.int .i64),.dat 6 (.int .i64),.dat 7 (.int .i64)]
abbrev g11:List Si:=[.dat 0 .str,.dat 3 (.int .i64),.dat 5 (.int .i64)]
abbrev g12:List Si:=[]
def T:CT:=(.s .o (.s (.s .o (.b (.l g1 (.s .o (.b (.s .o (.s .o (.s (.b (.s .o (.c .o (.s .o (.r g2 (.c .o (.s .o (.r g3 (.c .o (.s .o (.r g4 .o))))))))))) (.r g5 (.s .o (.r g6 (.s (.s .o (.b (.l g7 (.s .o (.s (.b (.s .o (.r g8 .o))) (.r g9 .o)))))) (.r g10 (.s .o (.r g11 .o))))))))))))))) (.r g12 .o)))
def J1 (n:Nat)(m:Nat):ByteArray×Int×Unit→Option R:=jL (X n) n T (yaM Tryz.f80) (endK ia io) g1 [1,0,1,0] [] m
def J2 (n m1:Nat):ByteArray×Int×Int×Bool×Unit→Option R:=jR (X n) n T (yaM Tryz.f80) (endK ia io) g2 [1,0,1,0,0,1,0,1,1,0,0,1,1,1] [m1]
def J3 (n m1:Nat):ByteArray×Int×Int×Bool×Unit→Option R:=jR (X n) n T (yaM Tryz.f80) (endK ia io) g3 [1,0,1,0,0,1,0,1,1,0,0,1,1,1,1,1] [m1]
def J4 (n m1:Nat):ByteArray×Int×Int×Bool×Unit→Option R:=jR (X n) n T (yaM Tryz.f80) (endK ia io) g4 [1,0,1,0,0,1,0,1,1,0,0,1,1,1,1,1,1,1] [m1]
def J5 (n m1:Nat):ByteArray×Int×Int×Int×Int×Int×Unit→Option R:=jR (X n) n T (yaM Tryz.f80) (endK ia io) g5 [1,0,1,0,0,1,0,1,1,1] [m1]
def J6 (n m1:Nat):ByteArray×Int×Int×Int×Int×Unit→Option R:=jR (X n) n T (yaM Tryz.f80) (endK ia io) g6 [1,0,1,0,0,1,0,1,1,1,1] [m1]
def J7 (n m1:Nat)(m:Nat):ByteArray×Int×Int×Int×Int×Int×Unit→Option R:=jL (X n) n T (yaM Tryz.f80) (endK ia io) g7 [1,0,1,0,0,1,0,1,1,1,1,0,1,0] [m1] m
def J8 (n m1 m7:Nat):ByteArray×Int×Int×Int×Int×Int×Unit→Option R:=jR (X n) n T (yaM Tryz.f80) (endK ia io) g8 [1,0,1,0,0,1,0,1,1,1,1,0,1,0,0,1,0,0,1] [m1,m7]
def J9 (n m1 m7:Nat):ByteArray×Int×Int×Int×Int×Int×Unit→Option R:=jR (X n) n T (yaM Tryz.f80) (endK ia io) g9 [1,0,1,0,0,1,0,1,1,1,1,0,1,0,0,1,1] [m1,m7]
def J10 (n m1:Nat):ByteArray×Int×Int×Int×Int×Unit→Option R:=jR (X n) n T (yaM Tryz.f80) (endK ia io) g10 [1,0,1,0,0,1,0,1,1,1,1,1] [m1]
def J11 (n m1:Nat):ByteArray×Int×Int×Unit→Option R:=jR (X n) n T (yaM Tryz.f80) (endK ia io) g11 [1,0,1,0,0,1,0,1,1,1,1,1,1] [m1]
def J12 (n:Nat):Unit→Option R:=jR (X n) n T (yaM Tryz.f80) (endK ia io) g12 [1,1] []
def f (n:Nat)(s_:ByteArray):Option R:=fRun (X n) n T Tryz.f80 ia io (s_,())
theorem e0 (n:Nat)(s_:ByteArray):f n s_=J1 n n (s_,0,()):=(yae _).trans (by kernel_rfl)
theorem e1 (n m:Nat)(s_:ByteArray)(at_:Int):J1 n (m+1) (s_,at_,())=bIf ((hide (decide (at_<(s_.size:Int))))) (gIf (0≤at_∧at_<(s_.size:Int)) (bIf ((hide (decide ((IntKind.i64.wrap (bt s_ at_))<(128:Int))))) (J5 n m (s_,at_,(IntKind.i64.wrap (bt s_ at_)),1,(IntKind.i64.wrap (bt s_ at_)),0,())) (bIf ((hide (decide ((IntKind.i64.wrap (bt s_ at_))≥(192:Int))))) (J2 n m (s_,at_,(IntKind.i64.wrap (bt s_ at_)),(hide (decide ((IntKind.i64.wrap (bt s_ at_))<(224:Int)))),())) (J2 n m (s_,at_,(IntKind.i64.wrap (bt s_ at_)),false,()))))) (J12 n (())):=(yae _).trans (by kernel_rfl)
theorem e2 (n m1:Nat)(s_:ByteArray)(at_:Int)(b:Int)(t21:Bool):J2 n m1 (s_,at_,b,t21,())=bIf (t21) (J5 n m1 (s_,at_,b,2,(IntKind.i64.wrap (b-(192:Int))),128,())) (bIf ((hide (decide (b≥(224:Int))))) (J3 n m1 (s_,at_,b,(hide (decide (b<(240:Int)))),())) (J3 n m1 (s_,at_,b,false,()))):=(yae _).trans (by kernel_rfl)
theorem e3 (n m1:Nat)(s_:ByteArray)(at_:Int)(b:Int)(t30:Bool):J3 n m1 (s_,at_,b,t30,())=bIf (t30) (J5 n m1 (s_,at_,b,3,(IntKind.i64.wrap (b-(224:Int))),2048,())) (bIf ((hide (decide (b≥(240:Int))))) (J4 n m1 (s_,at_,b,(hide (decide (b<(248:Int)))),())) (J4 n m1 (s_,at_,b,false,()))):=(yae _).trans (by kernel_rfl)
theorem e4 (n m1:Nat)(s_:ByteArray)(at_:Int)(b:Int)(t39:Bool):J4 n m1 (s_,at_,b,t39,())=bIf (t39) (J5 n m1 (s_,at_,b,4,(IntKind.i64.wrap (b-(240:Int))),65536,())) (some (false,())):=(yae _).trans (by kernel_rfl)
theorem e5 (n m1:Nat)(s_:ByteArray)(at_:Int)(b:Int)(n_:Int)(r:Int)(least:Int):J5 n m1 (s_,at_,b,n_,r,least,())=bIf ((hide (decide (b<(32:Int))))) (some (false,())) (bIf ((hide (b==(127:Int)))) (some (false,())) (J6 n m1 (s_,at_,n_,r,least,()))):=(yae _).trans (by kernel_rfl)
theorem e6 (n m1:Nat)(s_:ByteArray)(at_:Int)(n_:Int)(r:Int)(least:Int):J6 n m1 (s_,at_,n_,r,least,())=J7 n m1 n (s_,at_,n_,r,least,1,()):=(yae _).trans (by kernel_rfl)
theorem e7 (n m1 m:Nat)(s_:ByteArray)(at_:Int)(n_:Int)(r:Int)(least:Int)(i:Int):J7 n m1 (m+1) (s_,at_,n_,r,least,i,())=bIf ((hide (decide (i<n_)))) (bIf ((hide (decide ((IntKind.i64.wrap (at_+i))≥(s_.size:Int))))) (some (false,())) (gIf (0≤(IntKind.i64.wrap (at_+i))∧(IntKind.i64.wrap (at_+i))<(s_.size:Int)) (bIf ((hide (decide ((bt s_ (IntKind.i64.wrap (at_+i)))<(128:Int))))) (some (false,())) (gIf (0≤(IntKind.i64.wrap (at_+i))∧(IntKind.i64.wrap (at_+i))<(s_.size:Int)) (bIf ((hide (decide ((bt s_ (IntKind.i64.wrap (at_+i)))≥(192:Int))))) (some (false,())) (J8 n m1 m (s_,at_,n_,r,least,i,()))))))) (J10 n m1 (s_,at_,n_,r,least,())):=(yae _).trans (by kernel_rfl)
theorem e8 (n m1 m7:Nat)(s_:ByteArray)(at_:Int)(n_:Int)(r:Int)(least:Int)(i:Int):J8 n m1 m7 (s_,at_,n_,r,least,i,())=gIf (0≤(IntKind.i64.wrap (at_+i))∧(IntKind.i64.wrap (at_+i))<(s_.size:Int)) (J9 n m1 m7 (s_,at_,n_,(IntKind.i64.wrap ((IntKind.i64.wrap ((IntKind.i64.wrap (r*(64:Int)))+(IntKind.i64.wrap (bt s_ (IntKind.i64.wrap (at_+i))))))-(128:Int))),least,i,())):=(yae _).trans (by kernel_rfl)
theorem e9 (n m1 m7:Nat)(s_:ByteArray)(at_:Int)(n_:Int)(r:Int)(least:Int)(i:Int):J9 n m1 m7 (s_,at_,n_,r,least,i,())=J7 n m1 m7 (s_,at_,n_,r,least,(IntKind.i64.wrap (i+(1:Int))),()):=(yae _).trans (by kernel_rfl)
theorem e10 (n m1:Nat)(s_:ByteArray)(at_:Int)(n_:Int)(r:Int)(least:Int):J10 n m1 (s_,at_,n_,r,least,())=bIf ((hide (decide (r<least)))) (some (false,())) (bIf ((hide (decide (r>(1114111:Int))))) (some (false,())) (bIf ((hide (decide (r≥(55296:Int))))) (bIf ((hide (decide (r≤(57343:Int))))) (some (false,())) (J11 n m1 (s_,at_,n_,()))) (J11 n m1 (s_,at_,n_,())))):=(yae _).trans (by kernel_rfl)
theorem e11 (n m1:Nat)(s_:ByteArray)(at_:Int)(n_:Int):J11 n m1 (s_,at_,n_,())=J1 n m1 (s_,(IntKind.i64.wrap (at_+n_)),()):=(yae _).trans (by kernel_rfl)
theorem e12 (n:Nat):J12 n (())=some (true,()):=(yae _).trans (by kernel_rfl)
theorem ok (n:Nat):FnOk Tryz.prog 80 ia io (fRun (X n) n T Tryz.f80 ia io):=yaG mixed tabIs (yav) Tryz.func80 (by kernel_rfl) rfl
def en (n:Nat):Entry:=yaB 80 ia io (fRun (X n) n T Tryz.f80 ia io)
end yaI
namespace ydI
abbrev ia:List Ai:=[.dat (.int .i64)]
abbrev io:List (Nat×Oi):=[(2,.dat (.int .i64))]
abbrev R:Type:=DOut ia io
def X (n:Nat):Ctx:=⟨⟨tab,[],0,[]⟩,6,bnOf 0 ia⟩
def T:CT := .o
def f (n:Nat)(t:Int):Option R:=fRun (X n) n T Tryz.f170 ia io (t,())
theorem e0 (n:Nat)(t:Int):f n t=some ((maxI .i64 (-62135596800) (minI .i64 t 253402300799)),()):=(yae _).trans (by kernel_rfl)
theorem ok (n:Nat):FnOk Tryz.prog 170 ia io (fRun (X n) n T Tryz.f170 ia io):=yaG mixed tabIs (yav) Tryz.func170 (by kernel_rfl) rfl
def en (n:Nat):Entry:=yaB 170 ia io (fRun (X n) n T Tryz.f170 ia io)
end ydI
namespace yeb
abbrev ia:List Ai:=[.dat (.int .i64)]
abbrev io:List (Nat×Oi):=[(2,.dat (.int .i64))]
abbrev R:Type:=DOut ia io
def X (n:Nat):Ctx:=⟨⟨tab,[],0,[]⟩,8,bnOf 0 ia⟩
def T:CT := .o
def f (n:Nat)(t:Int):Option R:=fRun (X n) n T Tryz.f126 ia io (t,())
theorem e0 (n:Nat)(t:Int):f n t=bIf ((hide (decide (t<(-62135596800:Int))))) (some ((-62135596800),())) (bIf ((hide (decide (t>(253402300799:Int))))) (some (253402300799,())) (some (t,()))):=(yae _).trans (by kernel_rfl)
theorem ok (n:Nat):FnOk Tryz.prog 126 ia io (fRun (X n) n T Tryz.f126 ia io):=yaG mixed tabIs (yav) Tryz.func126 (by kernel_rfl) rfl
def en (n:Nat):Entry:=yaB 126 ia io (fRun (X n) n T Tryz.f126 ia io)
end yeb
namespace ydy
abbrev ia:List Ai:=[.dat yaO]
abbrev io:List (Nat×Oi):=[(2,.dat .bool)]
abbrev R:Type:=DOut ia io
def X (n:Nat):Ctx:=⟨⟨tab,[ydI.en n],0,[]⟩,19,bnOf 0 ia⟩
abbrev g1:List Si:=[.ref 1 1 yaO,.dat 10 .bool,.box 1 (.d yaO)]
def T:CT:=(.s .o (.s (.s .o (.b (.s .o (.c .o (.s .o (.r g1 .o)))))) .o))
def J1 (n:Nat):Bool×yaZ×Unit→Option R:=jR (X n) n T (yaM Tryz.f171) (endK ia io) g1 [1,0,1,0,1,1,1] []
def f (n:Nat)(l:yaZ):Option R:=fRun (X n) n T Tryz.f171 ia io (l,())
theorem e0 (n:Nat)(l:yaZ):f n l=bIf ((hide (l.1==(0:Int)))) (some ((hide (l.2.1==(0:Int))),())) (bIf ((hide (l.1==(1:Int)))) (J1 n (true,l,())) (J1 n ((hide (l.1==(2:Int))),l,()))):=(yae _).trans (by kernel_rfl)
theorem e1 (n:Nat)(t10:Bool)(l:yaZ):J1 n (t10,l,())=bIf (t10) (bnd (ydI.f n l.2.1) λu1=>some ((hide (l.2.1==u1.1)),())) (some (false,())):=(yae _).trans (by kernel_rfl)
theorem ok (n:Nat):FnOk Tryz.prog 171 ia io (fRun (X n) n T Tryz.f171 ia io):=yaG mixed tabIs (yad (yac (ydI.ok n)) (yav)) Tryz.func171 (by kernel_rfl) rfl
def en (n:Nat):Entry:=yaB 171 ia io (fRun (X n) n T Tryz.f171 ia io)
end ydy
namespace yea
abbrev ia:List Ai:=[.dat yaO]
abbrev io:List (Nat×Oi):=[(2,.dat .bool)]
abbrev R:Type:=DOut ia io
def X (n:Nat):Ctx:=⟨⟨tab,[yeb.en n],0,[]⟩,25,bnOf 0 ia⟩
def T:CT := .o
def f (n:Nat)(l:yaZ):Option R:=fRun (X n) n T Tryz.f87 ia io (l,())
theorem e0 (n:Nat)(l:yaZ):f n l=bIf ((hide (l.1==(0:Int)))) (some ((hide (l.2.1==(0:Int))),())) (bIf ((hide (l.1==(1:Int)))) (bnd (yeb.f n l.2.1) λu1=>some ((hide (u1.1==l.2.1)),())) (bIf ((hide (l.1==(2:Int)))) (bnd (yeb.f n l.2.1) λu2=>some ((hide (u2.1==l.2.1)),())) (some (false,())))):=(yae _).trans (by kernel_rfl)
theorem ok (n:Nat):FnOk Tryz.prog 87 ia io (fRun (X n) n T Tryz.f87 ia io):=yaG mixed tabIs (yad (yac (yeb.ok n)) (yav)) Tryz.func87 (by kernel_rfl) rfl
def en (n:Nat):Entry:=yaB 87 ia io (fRun (X n) n T Tryz.f87 ia io)
end yea
namespace ye0
abbrev ia:List Ai:=[.dat yaw]
abbrev io:List (Nat×Oi):=[(2,.dat .bool)]
abbrev R:Type:=DOut ia io
def X (n:Nat):Ctx:=⟨⟨tab,[ybk.en n],0,[]⟩,28,bnOf 0 ia⟩
def T:CT := .o
def f (n:Nat)(t:yaz):Option R:=fRun (X n) n T Tryz.f224 ia io (t,())
theorem e0 (n:Nat)(t:yaz):f n t=bIf ((hide (!eqS t.1 (⟨#[]⟩:ByteArray)))) (bIf ((hide (decide ((t.1.size:Int)≤(64:Int))))) (bIf ((hide (decide ((t.2.1.size:Int)≤(64:Int))))) (bnd (ybk.f n t.1) λu1=>bIf (u1.1) (bnd (ybk.f n t.2.1) λu2=>some (u2.1,())) (some (false,()))) (some (false,()))) (some (false,()))) (some (false,())):=(yae _).trans (by kernel_rfl)
theorem ok (n:Nat):FnOk Tryz.prog 224 ia io (fRun (X n) n T Tryz.f224 ia io):=yaG mixed tabIs (yad (yac (ybk.ok n)) (yav)) Tryz.func224 (by kernel_rfl) rfl
def en (n:Nat):Entry:=yaB 224 ia io (fRun (X n) n T Tryz.f224 ia io)
end ye0
namespace ycB
abbrev ia:List Ai:=[.dat (.slice yaw)]
abbrev io:List (Nat×Oi):=[(2,.dat .bool)]
abbrev R:Type:=DOut ia io
def X (n:Nat):Ctx:=⟨⟨tab,[ye0.en n],0,[]⟩,34,bnOf 0 ia⟩
abbrev g1:List Si:=[.dat 0 (.slice yaw),.dat 8 (.slice yaw),.dat 9 (.int .i64),.dat 10 (.int .i64)]
abbrev g2:List Si:=[]
def T:CT:=(.s .o (.s .o (.s (.s .o (.b (.l g1 .o))) (.r g2 .o))))
def J1 (n:Nat)(m:Nat):(List (yaz))×(List (yaz))×Int×Int×Unit→Option R:=jL (X n) n T (yaM Tryz.f172) (endK ia io) g1 [1,1,0,1,0] [] m
def J2 (n:Nat):Unit→Option R:=jR (X n) n T (yaM Tryz.f172) (endK ia io) g2 [1,1,1] []
def f (n:Nat)(list:List (yaz)):Option R:=fRun (X n) n T Tryz.f172 ia io (list,())
theorem e0 (n:Nat)(list:List (yaz)):f n list=bIf ((hide (decide (((list.length:Nat):Int)>(8:Int))))) (some (false,())) (J1 n n (list,list,((list.length:Nat):Int),0,())):=(yae _).trans (by kernel_rfl)
theorem e1 (n m:Nat)(list:List (yaz))(t8:List (yaz))(t9:Int)(t10:Int):J1 n (m+1) (list,t8,t9,t10,())=bIf ((hide (decide (t10<t9)))) (gIf (0≤t10∧t10<((t8.length:Nat):Int)) (bnd (ye0.f n (List.getD t8 t10.toNat (Va.dflt yaw))) λu1=>bIf ((!u1.1)) (some (false,())) (bIf ((hide (decide (t10>(0:Int))))) (gIf (0≤(IntKind.i64.wrap (t10-(1:Int)))∧(IntKind.i64.wrap (t10-(1:Int)))<((list.length:Nat):Int)) (bIf ((hide (!ltS ((List.getD list ((IntKind.i64.wrap (t10-(1:Int))).toNat) (Va.dflt yaw)).1) ((List.getD t8 t10.toNat (Va.dflt yaw)).1)))) (some (false,())) (J1 n m (list,t8,t9,(IntKind.i64.wrap (t10+(1:Int))),())))) (J1 n m (list,t8,t9,(IntKind.i64.wrap (t10+(1:Int))),()))))) (J2 n (())):=(yae _).trans (by kernel_rfl)
theorem e2 (n:Nat):J2 n (())=some (true,()):=(yae _).trans (by kernel_rfl)
theorem ok (n:Nat):FnOk Tryz.prog 172 ia io (fRun (X n) n T Tryz.f172 ia io):=yaG mixed tabIs (yad (yac (ye0.ok n)) (yav)) Tryz.func172 (by kernel_rfl) rfl
def en (n:Nat):Entry:=yaB 172 ia io (fRun (X n) n T Tryz.f172 ia io)
end ycB
namespace yb9
abbrev ia:List Ai:=[.dat (.slice yaw)]
abbrev io:List (Nat×Oi):=[(2,.dat .bool)]
abbrev R:Type:=DOut ia io
def X (n:Nat):Ctx:=⟨⟨tab,[yaI.en n],0,[]⟩,72,bnOf 0 ia⟩
abbrev g1:List Si:=[.dat 0 (.slice yaw),.dat 3 (.int .i64)]
abbrev g2:List Si:=[.dat 0 (.slice yaw),.dat 3 (.int .i64)]
abbrev g3:List Si:=[.dat 0 (.slice yaw),.dat 3 (.int .i64)]
abbrev g4:List Si:=[]
def T:CT:=(.s .o (.s .o (.s (.s .o (.b (.l g1 (.s .o (.s (.b (.s .o (.r g2 .o))) (.r g3 .o)))))) (.r g4 .o))))
def J1 (n:Nat)(m:Nat):(List (yaz))×Int×Unit→Option R:=jL (X n) n T (yaM Tryz.f86) (endK ia io) g1 [1,1,0,1,0] [] m
def J2 (n m1:Nat):(List (yaz))×Int×Unit→Option R:=jR (X n) n T (yaM Tryz.f86) (endK ia io) g2 [1,1,0,1,0,0,1,0,0,1] [m1]
def J3 (n m1:Nat):(List (yaz))×Int×Unit→Option R:=jR (X n) n T (yaM Tryz.f86) (endK ia io) g3 [1,1,0,1,0,0,1,1] [m1]
def J4 (n:Nat):Unit→Option R:=jR (X n) n T (yaM Tryz.f86) (endK ia io) g4 [1,1,1] []
def f (n:Nat)(l:List (yaz)):Option R:=fRun (X n) n T Tryz.f86 ia io (l,())
theorem e0 (n:Nat)(l:List (yaz)):f n l=bIf ((hide (decide (((l.length:Nat):Int)>(8:Int))))) (some (false,())) (J1 n n (l,0,())):=(yae _).trans (by kernel_rfl)
theorem e1 (n m:Nat)(l:List (yaz))(i:Int):J1 n (m+1) (l,i,())=bIf ((hide (decide (i<((l.length:Nat):Int))))) (gIf (0≤i∧i<((l.length:Nat):Int)) (bIf ((hide (decide ((((List.getD l i.toNat (Va.dflt yaw)).1).size:Int)<(1:Int))))) (some (false,())) (gIf (0≤i∧i<((l.length:Nat):Int)) (bIf ((hide (decide ((((List.getD l i.toNat (Va.dflt yaw)).1).size:Int)>(64:Int))))) (some (false,())) (gIf (0≤i∧i<((l.length:Nat):Int)) (bIf ((hide (decide (((((List.getD l i.toNat (Va.dflt yaw)).2).1).size:Int)>(64:Int))))) (some (false,())) (gIf (0≤i∧i<((l.length:Nat):Int)) (bnd (yaI.f n ((List.getD l i.toNat (Va.dflt yaw)).1)) λu1=>bIf ((!u1.1)) (some (false,())) (gIf (0≤i∧i<((l.length:Nat):Int)) (bnd (yaI.f n (((List.getD l i.toNat (Va.dflt yaw)).2).1)) λu2=>bIf ((!u2.1)) (some (false,())) (J2 n m (l,i,())))))))))))) (J4 n (())):=(yae _).trans (by kernel_rfl)
theorem e2 (n m1:Nat)(l:List (yaz))(i:Int):J2 n m1 (l,i,())=bIf ((hide (decide (i>(0:Int))))) (gIf (0≤i∧i<((l.length:Nat):Int)) (gIf (0≤(IntKind.i64.wrap (i-(1:Int)))∧(IntKind.i64.wrap (i-(1:Int)))<((l.length:Nat):Int)) (bIf ((hide (ltS ((List.getD l i.toNat (Va.dflt yaw)).1) ((List.getD l ((IntKind.i64.wrap (i-(1:Int))).toNat) (Va.dflt yaw)).1)||eqS ((List.getD l i.toNat (Va.dflt yaw)).1) ((List.getD l ((IntKind.i64.wrap (i-(1:Int))).toNat) (Va.dflt yaw)).1)))) (some (false,())) (J3 n m1 (l,i,()))))) (J3 n m1 (l,i,())):=(yae _).trans (by kernel_rfl)
theorem e3 (n m1:Nat)(l:List (yaz))(i:Int):J3 n m1 (l,i,())=J1 n m1 (l,(IntKind.i64.wrap (i+(1:Int))),()):=(yae _).trans (by kernel_rfl)
theorem e4 (n:Nat):J4 n (())=some (true,()):=(yae _).trans (by kernel_rfl)
theorem ok (n:Nat):FnOk Tryz.prog 86 ia io (fRun (X n) n T Tryz.f86 ia io):=yaG mixed tabIs (yad (yac (yaI.ok n)) (yav)) Tryz.func86 (by kernel_rfl) rfl
def en (n:Nat):Entry:=yaB 86 ia io (fRun (X n) n T Tryz.f86 ia io)
end yb9
namespace ycx
abbrev ia:List Ai:=[.dat (.slice yaw),.dat (.slice yaw)]
abbrev io:List (Nat×Oi):=[(4,.dat .bool)]
abbrev R:Type:=DOut ia io
def X (n:Nat):Ctx:=⟨⟨tab,[],0,[]⟩,26,bnOf 0 ia⟩
abbrev g1:List Si:=[.dat 0 (.slice yaw),.dat 1 (.slice yaw),.dat 12 (.int .i64),.dat 13 (.int .i64)]
abbrev g2:List Si:=[]
def T:CT:=(.s .o (.s .o (.s (.s .o (.b (.l g1 .o))) (.r g2 .o))))
def J1 (n:Nat)(m:Nat):(List (yaz))×(List (yaz))×Int×Int×Unit→Option R:=jL (X n) n T (yaM Tryz.f194) (endK ia io) g1 [1,1,0,1,0] [] m
def J2 (n:Nat):Unit→Option R:=jR (X n) n T (yaM Tryz.f194) (endK ia io) g2 [1,1,1] []
def f (n:Nat)(s1:List (yaz))(s2:List (yaz)):Option R:=fRun (X n) n T Tryz.f194 ia io (s1,s2,())
theorem e0 (n:Nat)(s1:List (yaz))(s2:List (yaz)):f n s1 s2=bIf ((hide (((s1.length:Nat):Int) != ((s2.length:Nat):Int)))) (some (false,())) (J1 n n (s1,s2,((s1.length:Nat):Int),0,())):=(yae _).trans (by kernel_rfl)
theorem e1 (n m:Nat)(s1:List (yaz))(s2:List (yaz))(t12:Int)(t13:Int):J1 n (m+1) (s1,s2,t12,t13,())=bIf ((hide (decide (t13<t12)))) (gIf (0≤t13∧t13<((s1.length:Nat):Int)) (gIf (0≤t13∧t13<((s2.length:Nat):Int)) (bIf ((hide (!(eqD yaw (List.getD s1 t13.toNat (Va.dflt yaw)) (List.getD s2 t13.toNat (Va.dflt yaw)))))) (some (false,())) (J1 n m (s1,s2,t12,(IntKind.i64.wrap (t13+(1:Int))),()))))) (J2 n (())):=(yae _).trans (by kernel_rfl)
theorem e2 (n:Nat):J2 n (())=some (true,()):=(yae _).trans (by kernel_rfl)
theorem ok (n:Nat):FnOk Tryz.prog 194 ia io (fRun (X n) n T Tryz.f194 ia io):=yaG mixed tabIs (yav) Tryz.func194 (by kernel_rfl) rfl
def en (n:Nat):Entry:=yaB 194 ia io (fRun (X n) n T Tryz.f194 ia io)
end ycx
namespace yde
abbrev ia:List Ai:=[.dat (.slice yaw),.dat (.slice yaw)]
abbrev io:List (Nat×Oi):=[(4,.dat .bool)]
abbrev R:Type:=DOut ia io
def X (n:Nat):Ctx:=⟨⟨tab,[ycx.en n],0,[]⟩,8,bnOf 0 ia⟩
def T:CT := .o
def f (n:Nat)(a:List (yaz))(b:List (yaz)):Option R:=fRun (X n) n T Tryz.f139 ia io (a,b,())
theorem e0 (n:Nat)(a:List (yaz))(b:List (yaz)):f n a b=bnd (ycx.f n a b) λu1=>some (u1.1,()):=(yae _).trans (by kernel_rfl)
theorem ok (n:Nat):FnOk Tryz.prog 139 ia io (fRun (X n) n T Tryz.f139 ia io):=yaG mixed tabIs (yad (yac (ycx.ok n)) (yav)) Tryz.func139 (by kernel_rfl) rfl
def en (n:Nat):Entry:=yaB 139 ia io (fRun (X n) n T Tryz.f139 ia io)
end yde
namespace ycq
abbrev ia:List Ai:=[.dat (.slice yaw),.dat (.slice yaw)]
abbrev io:List (Nat×Oi):=[(4,.dat .bool)]
abbrev R:Type:=DOut ia io
def X (n:Nat):Ctx:=⟨⟨tab,[],0,[]⟩,41,bnOf 0 ia⟩
abbrev g1:List Si:=[.dat 0 (.slice yaw),.dat 1 (.slice yaw),.dat 5 (.int .i64)]
abbrev g2:List Si:=[.dat 0 (.slice yaw),.dat 1 (.slice yaw),.dat 5 (.int .i64)]
abbrev g3:List Si:=[]
def T:CT:=(.s .o (.s .o (.s (.s .o (.b (.l g1 (.s .o (.s .o (.r g2 .o)))))) (.r g3 .o))))
def J1 (n:Nat)(m:Nat):(List (yaz))×(List (yaz))×Int×Unit→Option R:=jL (X n) n T (yaM Tryz.f102) (endK ia io) g1 [1,1,0,1,0] [] m
def J2 (n m1:Nat):(List (yaz))×(List (yaz))×Int×Unit→Option R:=jR (X n) n T (yaM Tryz.f102) (endK ia io) g2 [1,1,0,1,0,0,1,1] [m1]
def J3 (n:Nat):Unit→Option R:=jR (X n) n T (yaM Tryz.f102) (endK ia io) g3 [1,1,1] []
def f (n:Nat)(a:List (yaz))(b:List (yaz)):Option R:=fRun (X n) n T Tryz.f102 ia io (a,b,())
theorem e0 (n:Nat)(a:List (yaz))(b:List (yaz)):f n a b=bIf ((hide (((a.length:Nat):Int) != ((b.length:Nat):Int)))) (some (false,())) (J1 n n (a,b,0,())):=(yae _).trans (by kernel_rfl)
theorem e1 (n m:Nat)(a:List (yaz))(b:List (yaz))(i:Int):J1 n (m+1) (a,b,i,())=bIf ((hide (decide (i<((a.length:Nat):Int))))) (gIf (0≤i∧i<((a.length:Nat):Int)) (gIf (0≤i∧i<((b.length:Nat):Int)) (bIf ((hide (!eqS ((List.getD a i.toNat (Va.dflt yaw)).1) ((List.getD b i.toNat (Va.dflt yaw)).1)))) (some (false,())) (gIf (0≤i∧i<((a.length:Nat):Int)) (gIf (0≤i∧i<((b.length:Nat):Int)) (bIf ((hide (!eqS (((List.getD a i.toNat (Va.dflt yaw)).2).1) (((List.getD b i.toNat (Va.dflt yaw)).2).1)))) (some (false,())) (J2 n m (a,b,i,())))))))) (J3 n (())):=(yae _).trans (by kernel_rfl)
theorem e2 (n m1:Nat)(a:List (yaz))(b:List (yaz))(i:Int):J2 n m1 (a,b,i,())=J1 n m1 (a,b,(IntKind.i64.wrap (i+(1:Int))),()):=(yae _).trans (by kernel_rfl)
theorem e3 (n:Nat):J3 n (())=some (true,()):=(yae _).trans (by kernel_rfl)
theorem ok (n:Nat):FnOk Tryz.prog 102 ia io (fRun (X n) n T Tryz.f102 ia io):=yaG mixed tabIs (yav) Tryz.func102 (by kernel_rfl) rfl
def en (n:Nat):Entry:=yaB 102 ia io (fRun (X n) n T Tryz.f102 ia io)
end ycq
namespace yd3
abbrev ia:List Ai:=[.dat .str]
abbrev io:List (Nat×Oi):=[(2,.dat .bool)]
abbrev R:Type:=DOut ia io
def X (n:Nat):Ctx:=⟨⟨tab,[ybk.en n],0,[]⟩,14,bnOf 0 ia⟩
def T:CT := .o
def f (n:Nat)(s_:ByteArray):Option R:=fRun (X n) n T Tryz.f193 ia io (s_,())
theorem e0 (n:Nat)(s_:ByteArray):f n s_=bIf ((hide (!eqS s_ (⟨#[]⟩:ByteArray)))) (bIf ((hide (decide ((s_.size:Int)≤(200:Int))))) (bnd (ybk.f n s_) λu1=>some (u1.1,())) (some (false,()))) (some (false,())):=(yae _).trans (by kernel_rfl)
theorem ok (n:Nat):FnOk Tryz.prog 193 ia io (fRun (X n) n T Tryz.f193 ia io):=yaG mixed tabIs (yad (yac (ybk.ok n)) (yav)) Tryz.func193 (by kernel_rfl) rfl
def en (n:Nat):Entry:=yaB 193 ia io (fRun (X n) n T Tryz.f193 ia io)
end yd3
namespace yeQ
abbrev ia:List Ai:=[.dat .str]
abbrev io:List (Nat×Oi):=[(2,.dat .bool)]
abbrev R:Type:=DOut ia io
def X (n:Nat):Ctx:=⟨⟨tab,[yaI.en n],0,[]⟩,15,bnOf 0 ia⟩
def T:CT := .o
def f (n:Nat)(s_:ByteArray):Option R:=fRun (X n) n T Tryz.f85 ia io (s_,())
theorem e0 (n:Nat)(s_:ByteArray):f n s_=bIf ((hide (decide ((s_.size:Int)≥(1:Int))))) (bIf ((hide (decide ((s_.size:Int)≤(200:Int))))) (bnd (yaI.f n s_) λu1=>some (u1.1,())) (some (false,()))) (some (false,())):=(yae _).trans (by kernel_rfl)
theorem ok (n:Nat):FnOk Tryz.prog 85 ia io (fRun (X n) n T Tryz.f85 ia io):=yaG mixed tabIs (yad (yac (yaI.ok n)) (yav)) Tryz.func85 (by kernel_rfl) rfl
def en (n:Nat):Entry:=yaB 85 ia io (fRun (X n) n T Tryz.f85 ia io)
end yeQ
namespace ycS
abbrev ia:List Ai:=[.dat yco]
abbrev io:List (Nat×Oi):=[(2,.dat .bool)]
abbrev R:Type:=DOut ia io
def X (n:Nat):Ctx:=⟨⟨tab,[ydI.en n,ydy.en n,ycB.en n],0,[]⟩,65,bnOf 0 ia⟩
abbrev g1:List Si:=[.ref 1 1 yco,.box 1 (.d yco)]
def T:CT:=(.s .o (.s .o (.r g1 .o)))
def J1 (n:Nat):ybD×Unit→Option R:=jR (X n) n T (yaM Tryz.f108) (endK ia io) g1 [1,1] []
def f (n:Nat)(v_:ybD):Option R:=fRun (X n) n T Tryz.f108 ia io (v_,())
theorem e0 (n:Nat)(v_:ybD):f n v_=bIf ((hide (v_.1==(0:Int)))) (some (false,())) (bnd (ydI.f n v_.2.2.2.2.2.1) λu1=>bIf ((hide (v_.2.2.2.2.2.1 != u1.1))) (some (false,())) (J1 n (v_,()))):=(yae _).trans (by kernel_rfl)
theorem e1 (n:Nat)(v_:ybD):J1 n (v_,())=bIf (v_.2.1) (bIf ((hide (v_.2.2.1==(0:Int)))) (bIf ((hide (v_.2.2.2.1==(0:Int)))) (bIf ((hide (eqD (.arr 32 (.int .u8)) v_.2.2.2.2.1 ([]++List.replicate (32-([]:List (Int)).length) 0)))) (bIf ((hide (eqD yaO v_.2.2.2.2.2.2.1 (0,(0,(false,())))))) (some ((hide (((v_.2.2.2.2.2.2.2.1.length:Nat):Int)==(0:Int))),())) (some (false,()))) (some (false,()))) (some (false,()))) (some (false,()))) (bIf ((hide (decide (v_.2.2.1≥(0:Int))))) (bIf ((hide (decide (v_.2.2.1≤(16384:Int))))) (bIf ((hide (decide (v_.2.2.2.1>(0:Int))))) (bnd (ydy.f n v_.2.2.2.2.2.2.1) λu1=>bIf (u1.1) (bnd (ycB.f n v_.2.2.2.2.2.2.2.1) λu2=>some (u2.1,())) (some (false,()))) (some (false,()))) (some (false,()))) (some (false,()))):=(yae _).trans (by kernel_rfl)
theorem ok (n:Nat):FnOk Tryz.prog 108 ia io (fRun (X n) n T Tryz.f108 ia io):=yaG mixed tabIs (yad (yac (ydI.ok n)) (yad (yac (ydy.ok n)) (yad (yac (ycB.ok n)) (yav)))) Tryz.func108 (by kernel_rfl) rfl
def en (n:Nat):Entry:=yaB 108 ia io (fRun (X n) n T Tryz.f108 ia io)
end ycS
namespace ybj
abbrev ia:List Ai:=[.dat yco,.dat yco]
abbrev io:List (Nat×Oi):=[(4,.dat .bool)]
abbrev R:Type:=DOut ia io
def X (n:Nat):Ctx:=⟨⟨tab,[yde.en n],0,[]⟩,61,bnOf 0 ia⟩
def T:CT := .o
def f (n:Nat)(a:ybD)(b:ybD):Option R:=fRun (X n) n T Tryz.f166 ia io (a,b,())
theorem e0 (n:Nat)(a:ybD)(b:ybD):f n a b=bnd (yde.f n a.2.2.2.2.2.2.2.1 b.2.2.2.2.2.2.2.1) λu1=>bIf (u1.1) (bIf ((hide (a.1==b.1))) (bIf ((hide (a.2.1==b.2.1))) (bIf ((hide (a.2.2.1==b.2.2.1))) (bIf ((hide (a.2.2.2.1==b.2.2.2.1))) (bIf ((hide (eqD (.arr 32 (.int .u8)) a.2.2.2.2.1 b.2.2.2.2.1))) (bIf ((hide (a.2.2.2.2.2.1==b.2.2.2.2.2.1))) (some ((hide (eqD yaO a.2.2.2.2.2.2.1 b.2.2.2.2.2.2.1)),())) (some (false,()))) (some (false,()))) (some (false,()))) (some (false,()))) (some (false,()))) (some (false,()))) (some (false,())):=(yae _).trans (by kernel_rfl)
theorem ok (n:Nat):FnOk Tryz.prog 166 ia io (fRun (X n) n T Tryz.f166 ia io):=yaG mixed tabIs (yad (yac (yde.ok n)) (yav)) Tryz.func166 (by kernel_rfl) rfl
def en (n:Nat):Entry:=yaB 166 ia io (fRun (X n) n T Tryz.f166 ia io)
end ybj
namespace ycC
abbrev ia:List Ai:=[.dat yco,.dat yco]
abbrev io:List (Nat×Oi):=[(4,.dat .bool)]
abbrev R:Type:=DOut ia io
def X (n:Nat):Ctx:=⟨⟨tab,[ycq.en n],0,[]⟩,57,bnOf 0 ia⟩
abbrev g1:List Si:=[.ref 2 2 yco,.ref 3 3 yco,.box 2 (.d yco),.box 3 (.d yco)]
def T:CT:=(.s .o (.s .o (.r g1 .o)))
def J1 (n:Nat):ybD×ybD×Unit→Option R:=jR (X n) n T (yaM Tryz.f68) (endK ia io) g1 [1,1] []
def f (n:Nat)(a:ybD)(b:ybD):Option R:=fRun (X n) n T Tryz.f68 ia io (a,b,())
theorem e0 (n:Nat)(a:ybD)(b:ybD):f n a b=bIf ((hide (a.1 != b.1))) (some (false,())) (bIf ((hide (!(a.2.1==b.2.1)))) (some (false,())) (bIf ((hide (a.2.2.1 != b.2.2.1))) (some (false,())) (bIf ((hide (a.2.2.2.1 != b.2.2.2.1))) (some (false,())) (bIf ((hide (a.2.2.2.2.2.1 != b.2.2.2.2.2.1))) (some (false,())) (bIf ((hide (!(eqD yaO a.2.2.2.2.2.2.1 b.2.2.2.2.2.2.1)))) (some (false,())) (J1 n (a,b,()))))))):=(yae _).trans (by kernel_rfl)
theorem e1 (n:Nat)(a:ybD)(b:ybD):J1 n (a,b,())=bIf ((hide (eqD (.arr 32 (.int .u8)) a.2.2.2.2.1 b.2.2.2.2.1))) (bnd (ycq.f n a.2.2.2.2.2.2.2.1 b.2.2.2.2.2.2.2.1) λu1=>some (u1.1,())) (some (false,())):=(yae _).trans (by kernel_rfl)
theorem ok (n:Nat):FnOk Tryz.prog 68 ia io (fRun (X n) n T Tryz.f68 ia io):=yaG mixed tabIs (yad (yac (ycq.ok n)) (yav)) Tryz.func68 (by kernel_rfl) rfl
def en (n:Nat):Entry:=yaB 68 ia io (fRun (X n) n T Tryz.f68 ia io)
end ycC
namespace yeT
abbrev ia:List Ai:=[.dat yaA]
abbrev io:List (Nat×Oi):=[(2,.dat .bool)]
abbrev R:Type:=DOut ia io
def X (n:Nat):Ctx:=⟨⟨tab,[],0,[]⟩,21,bnOf 0 ia⟩
abbrev g1:List Si:=[.ref 1 1 yaA,.dat 10 .bool,.box 1 (.d yaA)]
def T:CT:=(.s .o (.s (.s .o (.b (.s .o (.c .o (.s .o (.r g1 .o)))))) .o))
def J1 (n:Nat):Bool×yaL×Unit→Option R:=jR (X n) n T (yaM Tryz.f181) (endK ia io) g1 [1,0,1,0,1,1,1] []
def f (n:Nat)(d:yaL):Option R:=fRun (X n) n T Tryz.f181 ia io (d,())
theorem e0 (n:Nat)(d:yaL):f n d=bIf ((hide (d.1==(0:Int)))) (some ((hide (d.2.1==(0:Int))),())) (bIf ((hide (d.1==(1:Int)))) (J1 n (true,d,())) (J1 n ((hide (d.1==(2:Int))),d,()))):=(yae _).trans (by kernel_rfl)
theorem e1 (n:Nat)(t10:Bool)(d:yaL):J1 n (t10,d,())=bIf (t10) (bIf ((hide (decide (d.2.1≥(1:Int))))) (some ((hide (decide (d.2.1≤(36500:Int)))),())) (some (false,()))) (some (false,())):=(yae _).trans (by kernel_rfl)
theorem ok (n:Nat):FnOk Tryz.prog 181 ia io (fRun (X n) n T Tryz.f181 ia io):=yaG mixed tabIs (yav) Tryz.func181 (by kernel_rfl) rfl
def en (n:Nat):Entry:=yaB 181 ia io (fRun (X n) n T Tryz.f181 ia io)
end yeT
namespace yey
abbrev ia:List Ai:=[.dat yaA]
abbrev io:List (Nat×Oi):=[(2,.dat .bool)]
abbrev R:Type:=DOut ia io
def X (n:Nat):Ctx:=⟨⟨tab,[],0,[]⟩,27,bnOf 0 ia⟩
def T:CT := .o
def f (n:Nat)(d:yaL):Option R:=fRun (X n) n T Tryz.f88 ia io (d,())
theorem e0 (n:Nat)(d:yaL):f n d=bIf ((hide (d.1==(0:Int)))) (some ((hide (d.2.1==(0:Int))),())) (bIf ((hide (d.1==(1:Int)))) (bIf ((hide (decide (d.2.1≥(1:Int))))) (some ((hide (decide (d.2.1≤(36500:Int)))),())) (some (false,()))) (bIf ((hide (d.1==(2:Int)))) (bIf ((hide (decide (d.2.1≥(1:Int))))) (some ((hide (decide (d.2.1≤(36500:Int)))),())) (some (false,()))) (some (false,())))):=(yae _).trans (by kernel_rfl)
theorem ok (n:Nat):FnOk Tryz.prog 88 ia io (fRun (X n) n T Tryz.f88 ia io):=yaG mixed tabIs (yav) Tryz.func88 (by kernel_rfl) rfl
def en (n:Nat):Entry:=yaB 88 ia io (fRun (X n) n T Tryz.f88 ia io)
end yey
namespace ycR
abbrev ia:List Ai:=[.dat .str]
abbrev io:List (Nat×Oi):=[(2,.val (.r 0 yc8)),(3,.dat .bool)]
abbrev R:Type:=DOut ia io
def X (n:Nat):Ctx:=⟨⟨tab,[],0,[]⟩,46,bnOf 0 ia⟩
abbrev g1:List Si:=[.dat 0 .str,.val 4 (.r 200400 yc8),.dat 5 (.int .i64)]
abbrev g2:List Si:=[.dat 0 .str,.val 4 (.r 200400 yc8),.dat 5 (.int .i64)]
abbrev g3:List Si:=[.dat 0 .str,.val 4 (.r 200400 yc8),.dat 5 (.int .i64)]
abbrev g4:List Si:=[.val 4 (.r 200400 yc8)]
def T:CT:=(.s .o (.s .o (.s .o (.s (.s .o (.b (.l g1 (.s .o (.s (.b (.s .o (.b (.s .o (.r g2 .o))))) (.r g3 .o)))))) (.r g4 .o)))))
def J1 (n:Nat)(m:Nat):ByteArray×(List (ybq))×Int×Unit→Option R:=jL (X n) n T (yaM Tryz.f253) (endK ia io) g1 [1,1,1,0,1,0] [] m
def J2 (n m1:Nat):ByteArray×(List (ybq))×Int×Unit→Option R:=jR (X n) n T (yaM Tryz.f253) (endK ia io) g2 [1,1,1,0,1,0,0,1,0,0,1,0,1] [m1]
def J3 (n m1:Nat):ByteArray×(List (ybq))×Int×Unit→Option R:=jR (X n) n T (yaM Tryz.f253) (endK ia io) g3 [1,1,1,0,1,0,0,1,1] [m1]
def J4 (n:Nat):(List (ybq))×Unit→Option R:=jR (X n) n T (yaM Tryz.f253) (endK ia io) g4 [1,1,1,1] []
def f (n:Nat)(p:ByteArray):Option R:=fRun (X n) n T Tryz.f253 ia io (p,())
theorem e0 (n:Nat)(p:ByteArray):f n p=bIf ((hide (decide ((p.size:Int)>(200:Int))))) (some ([],false,())) (J1 n n (p,[],0,())):=(yae _).trans (by kernel_rfl)
theorem e1 (n m:Nat)(p:ByteArray)(out:List (ybq))(i:Int):J1 n (m+1) (p,out,i,())=bIf ((hide (decide (i<(p.size:Int))))) (gIf (0≤i∧i<(p.size:Int)) (bIf ((hide ((bt p i)==(42:Int)))) (gIf ((out.length+1)*16≤70368744177664) (J3 n m (p,(out++([(2,(0,()))]:List (ybq))),i,()))) (bIf ((hide ((bt p i)==(63:Int)))) (gIf ((out.length+1)*16≤70368744177664) (J3 n m (p,(out++([(1,(0,()))]:List (ybq))),i,()))) (bIf ((hide ((bt p i)==(92:Int)))) (bIf ((hide ((IntKind.i64.wrap (i+(1:Int)))==(p.size:Int)))) (some ([],false,())) (J2 n m (p,out,(IntKind.i64.wrap (i+(1:Int))),()))) (J2 n m (p,out,i,())))))) (J4 n (out,())):=(yae _).trans (by kernel_rfl)
theorem e2 (n m1:Nat)(p:ByteArray)(out:List (ybq))(i:Int):J2 n m1 (p,out,i,())=gIf (0≤i∧i<(p.size:Int)) (gIf ((out.length+1)*16≤70368744177664) (J3 n m1 (p,(out++([(0,((bt p i),()))]:List (ybq))),i,()))):=(yae _).trans (by kernel_rfl)
theorem e3 (n m1:Nat)(p:ByteArray)(out:List (ybq))(i:Int):J3 n m1 (p,out,i,())=J1 n m1 (p,out,(IntKind.i64.wrap (i+(1:Int))),()):=(yae _).trans (by kernel_rfl)
theorem e4 (n:Nat)(out:List (ybq)):J4 n (out,())=some (out,true,()):=(yae _).trans (by kernel_rfl)
theorem ok (n:Nat):FnOk Tryz.prog 253 ia io (fRun (X n) n T Tryz.f253 ia io):=yaG mixed tabIs (yav) Tryz.func253 (by kernel_rfl) rfl
def en (n:Nat):Entry:=yaB 253 ia io (fRun (X n) n T Tryz.f253 ia io)
end ycR
namespace yee
abbrev ia:List Ai:=[.dat .str]
abbrev io:List (Nat×Oi):=[(2,.dat .bool)]
abbrev R:Type:=DOut ia io
def X (n:Nat):Ctx:=⟨⟨tab,[ycR.en n],0,[]⟩,11,bnOf 0 ia⟩
def T:CT := .o
def f (n:Nat)(p:ByteArray):Option R:=fRun (X n) n T Tryz.f232 ia io (p,())
theorem e0 (n:Nat)(p:ByteArray):f n p=bnd (ycR.f n p) λu1=>some (u1.2.1,()):=(yae _).trans (by kernel_rfl)
theorem ok (n:Nat):FnOk Tryz.prog 232 ia io (fRun (X n) n T Tryz.f232 ia io):=yaG mixed tabIs (yad (yac (ycR.ok n)) (yav)) Tryz.func232 (by kernel_rfl) rfl
def en (n:Nat):Entry:=yaB 232 ia io (fRun (X n) n T Tryz.f232 ia io)
end yee
namespace ycZ
abbrev ia:List Ai:=[.dat .str]
abbrev io:List (Nat×Oi):=[(2,.val (.r 0 yc8)),(3,.dat .bool)]
abbrev R:Type:=DOut ia io
def X (n:Nat):Ctx:=⟨⟨tab,[],0,[]⟩,57,bnOf 0 ia⟩
abbrev g1:List Si:=[.dat 0 .str,.val 4 (.r 200400 yc8),.dat 5 (.int .i64)]
abbrev g2:List Si:=[.dat 0 .str,.val 4 (.r 200400 yc8),.dat 5 (.int .i64)]
abbrev g3:List Si:=[.val 4 (.r 200400 yc8)]
def T:CT:=(.s .o (.s .o (.s .o (.s (.s .o (.b (.l g1 (.s .o (.s .o (.r g2 .o)))))) (.r g3 .o)))))
def J1 (n:Nat)(m:Nat):ByteArray×(List (ybq))×Int×Unit→Option R:=jL (X n) n T (yaM Tryz.f202) (endK ia io) g1 [1,1,1,0,1,0] [] m
def J2 (n m1:Nat):ByteArray×(List (ybq))×Int×Unit→Option R:=jR (X n) n T (yaM Tryz.f202) (endK ia io) g2 [1,1,1,0,1,0,0,1,1] [m1]
def J3 (n:Nat):(List (ybq))×Unit→Option R:=jR (X n) n T (yaM Tryz.f202) (endK ia io) g3 [1,1,1,1] []
def f (n:Nat)(p:ByteArray):Option R:=fRun (X n) n T Tryz.f202 ia io (p,())
theorem e0 (n:Nat)(p:ByteArray):f n p=bIf ((hide (decide ((p.size:Int)>(200:Int))))) (some (([]:List (ybq)),false,())) (J1 n n (p,([]:List (ybq)),0,())):=(yae _).trans (by kernel_rfl)
theorem e1 (n m:Nat)(p:ByteArray)(out:List (ybq))(i:Int):J1 n (m+1) (p,out,i,())=bIf ((hide (decide (i<(p.size:Int))))) (gIf (0≤i∧i<(p.size:Int)) (bIf ((hide ((bt p i)==(42:Int)))) (gIf ((out.length+1)*16≤70368744177664) (J2 n m (p,(out++([(2,(0,()))]:List (ybq))),i,()))) (bIf ((hide ((bt p i)==(63:Int)))) (gIf ((out.length+1)*16≤70368744177664) (J2 n m (p,(out++([(1,(0,()))]:List (ybq))),i,()))) (bIf ((hide ((bt p i)==(92:Int)))) (bIf ((hide (i==(IntKind.i64.wrap ((p.size:Int)-(1:Int)))))) (some (out,false,())) (gIf (0≤(IntKind.i64.wrap (i+(1:Int)))∧(IntKind.i64.wrap (i+(1:Int)))<(p.size:Int)) (gIf ((out.length+1)*16≤70368744177664) (J2 n m (p,(out++([(0,((bt p (IntKind.i64.wrap (i+(1:Int)))),()))]:List (ybq))),(IntKind.i64.wrap (i+(1:Int))),()))))) (gIf (0≤i∧i<(p.size:Int)) (gIf ((out.length+1)*16≤70368744177664) (J2 n m (p,(out++([(0,((bt p i),()))]:List (ybq))),i,())))))))) (J3 n (out,())):=(yae _).trans (by kernel_rfl)
theorem e2 (n m1:Nat)(p:ByteArray)(out:List (ybq))(i:Int):J2 n m1 (p,out,i,())=J1 n m1 (p,out,(IntKind.i64.wrap (i+(1:Int))),()):=(yae _).trans (by kernel_rfl)
theorem e3 (n:Nat)(out:List (ybq)):J3 n (out,())=some (out,true,()):=(yae _).trans (by kernel_rfl)
theorem ok (n:Nat):FnOk Tryz.prog 202 ia io (fRun (X n) n T Tryz.f202 ia io):=yaG mixed tabIs (yav) Tryz.func202 (by kernel_rfl) rfl
def en (n:Nat):Entry:=yaB 202 ia io (fRun (X n) n T Tryz.f202 ia io)
end ycZ
namespace ydQ
abbrev ia:List Ai:=[.dat .str]
abbrev io:List (Nat×Oi):=[(2,.dat .bool)]
abbrev R:Type:=DOut ia io
def X (n:Nat):Ctx:=⟨⟨tab,[ycZ.en n],0,[]⟩,11,bnOf 0 ia⟩
def T:CT := .o
def f (n:Nat)(p:ByteArray):Option R:=fRun (X n) n T Tryz.f150 ia io (p,())
theorem e0 (n:Nat)(p:ByteArray):f n p=bnd (ycZ.f n p) λu1=>some (u1.2.1,()):=(yae _).trans (by kernel_rfl)
theorem ok (n:Nat):FnOk Tryz.prog 150 ia io (fRun (X n) n T Tryz.f150 ia io):=yaG mixed tabIs (yad (yac (ycZ.ok n)) (yav)) Tryz.func150 (by kernel_rfl) rfl
def en (n:Nat):Entry:=yaB 150 ia io (fRun (X n) n T Tryz.f150 ia io)
end ydQ
namespace yeM
abbrev ia:List Ai:=[.dat yaC]
abbrev io:List (Nat×Oi):=[(2,.dat .bool)]
abbrev R:Type:=DOut ia io
def X (n:Nat):Ctx:=⟨⟨tab,[ybk.en n,ycB.en n],0,[]⟩,37,bnOf 0 ia⟩
def T:CT := .o
def f (n:Nat)(r:yau):Option R:=fRun (X n) n T Tryz.f229 ia io (r,())
theorem e0 (n:Nat)(r:yau):f n r=bIf ((hide (decide ((r.1.size:Int)≤(200:Int))))) (bnd (ybk.f n r.1) λu1=>bIf (u1.1) (bnd (ycB.f n r.2.1) λu2=>bIf (u2.1) (bIf ((hide (decide (r.2.2.1≥(0:Int))))) (bIf ((hide (decide (r.2.2.1≤(36500:Int))))) (bIf ((hide (decide (r.2.2.2.1≥(0:Int))))) (some ((hide (decide (r.2.2.2.1≤(36500:Int)))),())) (some (false,()))) (some (false,()))) (some (false,()))) (some (false,()))) (some (false,()))) (some (false,())):=(yae _).trans (by kernel_rfl)
theorem ok (n:Nat):FnOk Tryz.prog 229 ia io (fRun (X n) n T Tryz.f229 ia io):=yaG mixed tabIs (yad (yac (ybk.ok n)) (yad (yac (ycB.ok n)) (yav))) Tryz.func229 (by kernel_rfl) rfl
def en (n:Nat):Entry:=yaB 229 ia io (fRun (X n) n T Tryz.f229 ia io)
end yeM
namespace yer
abbrev ia:List Ai:=[.dat yaC]
abbrev io:List (Nat×Oi):=[(2,.dat .bool)]
abbrev R:Type:=DOut ia io
def X (n:Nat):Ctx:=⟨⟨tab,[yeM.en n],0,[]⟩,6,bnOf 0 ia⟩
def T:CT := .o
def f (n:Nat)(r:yau):Option R:=fRun (X n) n T Tryz.f228 ia io (r,())
theorem e0 (n:Nat)(r:yau):f n r=bnd (yeM.f n r) λu1=>some ((!u1.1),()):=(yae _).trans (by kernel_rfl)
theorem ok (n:Nat):FnOk Tryz.prog 228 ia io (fRun (X n) n T Tryz.f228 ia io):=yaG mixed tabIs (yad (yac (yeM.ok n)) (yav)) Tryz.func228 (by kernel_rfl) rfl
def en (n:Nat):Entry:=yaB 228 ia io (fRun (X n) n T Tryz.f228 ia io)
end yer
namespace ybG
abbrev ia:List Ai:=[.dat (.slice yaC),.fn (.fn 228) []]
abbrev io:List (Nat×Oi):=[(4,.dat (.int .i64))]
abbrev R:Type:=DOut ia io
def X (n:Nat):Ctx:=⟨⟨tab,[yer.en n],0,[]⟩,19,bnOf 0 ia⟩
abbrev g1:List Si:=[.dat 0 (.slice yaC),.clo 1 (.fn 228) [],.dat 7 (.int .i64),.dat 8 (.int .i64)]
abbrev g2:List Si:=[]
def T:CT:=(.s .o (.s (.s .o (.b (.l g1 .o))) (.r g2 .o)))
def J1 (n:Nat)(m:Nat):(List (yau))×Int×Int×Unit→Option R:=jL (X n) n T (yaM Tryz.f251) (endK ia io) g1 [1,0,1,0] [] m
def J2 (n:Nat):Unit→Option R:=jR (X n) n T (yaM Tryz.f251) (endK ia io) g2 [1,1] []
def f (n:Nat)(s_:List (yau)):Option R:=fRun (X n) n T Tryz.f251 ia io (s_,())
theorem e0 (n:Nat)(s_:List (yau)):f n s_=J1 n n (s_,((s_.length:Nat):Int),0,()):=(yae _).trans (by kernel_rfl)
theorem e1 (n m:Nat)(s_:List (yau))(t7:Int)(t8:Int):J1 n (m+1) (s_,t7,t8,())=bIf ((hide (decide (t8<t7)))) (gIf (0≤t8∧t8<((s_.length:Nat):Int)) (bnd (yer.f n (List.getD s_ t8.toNat (Va.dflt yaC))) λu1=>bIf (u1.1) (some (t8,())) (J1 n m (s_,t7,(IntKind.i64.wrap (t8+(1:Int))),())))) (J2 n (())):=(yae _).trans (by kernel_rfl)
theorem e2 (n:Nat):J2 n (())=some ((-1),()):=(yae _).trans (by kernel_rfl)
theorem ok (n:Nat):FnOk Tryz.prog 251 ia io (fRun (X n) n T Tryz.f251 ia io):=yaG mixed tabIs (yad (yac (yer.ok n)) (yav)) Tryz.func251 (by kernel_rfl) rfl
def en (n:Nat):Entry:=yaB 251 ia io (fRun (X n) n T Tryz.f251 ia io)
end ybG
namespace yct
abbrev ia:List Ai:=[.dat (.slice yaC),.fn (.fn 228) []]
abbrev io:List (Nat×Oi):=[(4,.dat .bool)]
abbrev R:Type:=DOut ia io
def X (n:Nat):Ctx:=⟨⟨tab,[ybG.en n],0,[]⟩,9,bnOf 0 ia⟩
def T:CT := .o
def f (n:Nat)(s_:List (yau)):Option R:=fRun (X n) n T Tryz.f227 ia io (s_,())
theorem e0 (n:Nat)(s_:List (yau)):f n s_=bnd (ybG.f n s_) λu1=>some ((hide (decide (u1.1≥(0:Int)))),()):=(yae _).trans (by kernel_rfl)
theorem ok (n:Nat):FnOk Tryz.prog 227 ia io (fRun (X n) n T Tryz.f227 ia io):=yaG mixed tabIs (yad (yac (ybG.ok n)) (yav)) Tryz.func227 (by kernel_rfl) rfl
def en (n:Nat):Entry:=yaB 227 ia io (fRun (X n) n T Tryz.f227 ia io)
end yct
namespace yex
abbrev ia:List Ai:=[.dat (.slice yaC)]
abbrev io:List (Nat×Oi):=[(2,.dat .bool)]
abbrev R:Type:=DOut ia io
def X (n:Nat):Ctx:=⟨⟨tab,[yct.en n],0,[]⟩,11,bnOf 0 ia⟩
def T:CT := .o
def f (n:Nat)(list:List (yau)):Option R:=fRun (X n) n T Tryz.f182 ia io (list,())
theorem e0 (n:Nat)(list:List (yau)):f n list=bIf ((hide (decide (((list.length:Nat):Int)≤(8:Int))))) (bnd (yct.f n list) λu1=>some ((!u1.1),())) (some (false,())):=(yae _).trans (by kernel_rfl)
theorem ok (n:Nat):FnOk Tryz.prog 182 ia io (fRun (X n) n T Tryz.f182 ia io):=yaG mixed tabIs (yad (yac (yct.ok n)) (yav)) Tryz.func182 (by kernel_rfl) rfl
def en (n:Nat):Entry:=yaB 182 ia io (fRun (X n) n T Tryz.f182 ia io)
end yex
namespace yc6
abbrev ia:List Ai:=[.dat (.slice yaC)]
abbrev io:List (Nat×Oi):=[(2,.dat .bool)]
abbrev R:Type:=DOut ia io
def X (n:Nat):Ctx:=⟨⟨tab,[yaI.en n,yb9.en n],0,[]⟩,54,bnOf 0 ia⟩
abbrev g1:List Si:=[.dat 0 (.slice yaC),.dat 3 (.int .i64)]
abbrev g2:List Si:=[.dat 0 (.slice yaC),.dat 3 (.int .i64)]
abbrev g3:List Si:=[]
def T:CT:=(.s .o (.s .o (.s (.s .o (.b (.l g1 (.s .o (.s .o (.r g2 .o)))))) (.r g3 .o))))
def J1 (n:Nat)(m:Nat):(List (yau))×Int×Unit→Option R:=jL (X n) n T (yaM Tryz.f89) (endK ia io) g1 [1,1,0,1,0] [] m
def J2 (n m1:Nat):(List (yau))×Int×Unit→Option R:=jR (X n) n T (yaM Tryz.f89) (endK ia io) g2 [1,1,0,1,0,0,1,1] [m1]
def J3 (n:Nat):Unit→Option R:=jR (X n) n T (yaM Tryz.f89) (endK ia io) g3 [1,1,1] []
def f (n:Nat)(l:List (yau)):Option R:=fRun (X n) n T Tryz.f89 ia io (l,())
theorem e0 (n:Nat)(l:List (yau)):f n l=bIf ((hide (decide (((l.length:Nat):Int)>(8:Int))))) (some (false,())) (J1 n n (l,0,())):=(yae _).trans (by kernel_rfl)
theorem e1 (n m:Nat)(l:List (yau))(i:Int):J1 n (m+1) (l,i,())=bIf ((hide (decide (i<((l.length:Nat):Int))))) (gIf (0≤i∧i<((l.length:Nat):Int)) (bIf ((hide (decide ((((List.getD l i.toNat (Va.dflt yaC)).1).size:Int)>(200:Int))))) (some (false,())) (bnd (yaI.f n ((List.getD l i.toNat (Va.dflt yaC)).1)) λu1=>bIf ((!u1.1)) (some (false,())) (bnd (yb9.f n (((List.getD l i.toNat (Va.dflt yaC)).2).1)) λu2=>bIf ((!u2.1)) (some (false,())) (bIf ((hide (decide (((((List.getD l i.toNat (Va.dflt yaC)).2).2).1)<(0:Int))))) (some (false,())) (bIf ((hide (decide (((((List.getD l i.toNat (Va.dflt yaC)).2).2).1)>(36500:Int))))) (some (false,())) (bIf ((hide (decide ((((((List.getD l i.toNat (Va.dflt yaC)).2).2).2).1)<(0:Int))))) (some (false,())) (bIf ((hide (decide ((((((List.getD l i.toNat (Va.dflt yaC)).2).2).2).1)>(36500:Int))))) (some (false,())) (J2 n m (l,i,())))))))))) (J3 n (())):=(yae _).trans (by kernel_rfl)
theorem e2 (n m1:Nat)(l:List (yau))(i:Int):J2 n m1 (l,i,())=J1 n m1 (l,(IntKind.i64.wrap (i+(1:Int))),()):=(yae _).trans (by kernel_rfl)
theorem e3 (n:Nat):J3 n (())=some (true,()):=(yae _).trans (by kernel_rfl)
theorem ok (n:Nat):FnOk Tryz.prog 89 ia io (fRun (X n) n T Tryz.f89 ia io):=yaG mixed tabIs (yad (yac (yaI.ok n)) (yad (yac (yb9.ok n)) (yav))) Tryz.func89 (by kernel_rfl) rfl
def en (n:Nat):Entry:=yaB 89 ia io (fRun (X n) n T Tryz.f89 ia io)
end yc6
namespace yd2
abbrev ia:List Ai:=[.dat yaD]
abbrev io:List (Nat×Oi):=[(2,.dat .bool)]
abbrev R:Type:=DOut ia io
def X (n:Nat):Ctx:=⟨⟨tab,[yee.en n],0,[]⟩,19,bnOf 0 ia⟩
def T:CT := .o
def f (n:Nat)(g:yat):Option R:=fRun (X n) n T Tryz.f231 ia io (g,())
theorem e0 (n:Nat)(g:yat):f n g=bnd (yee.f n g.2.1) λu1=>bIf ((!u1.1)) (some (true,())) (bnd (yee.f n g.2.2.1) λu2=>bIf ((!u2.1)) (some (true,())) (bnd (yee.f n g.2.2.2.1) λu3=>some ((!u3.1),()))):=(yae _).trans (by kernel_rfl)
theorem ok (n:Nat):FnOk Tryz.prog 231 ia io (fRun (X n) n T Tryz.f231 ia io):=yaG mixed tabIs (yad (yac (yee.ok n)) (yav)) Tryz.func231 (by kernel_rfl) rfl
def en (n:Nat):Entry:=yaB 231 ia io (fRun (X n) n T Tryz.f231 ia io)
end yd2
namespace ybA
abbrev ia:List Ai:=[.dat (.slice yaD),.fn (.fn 231) []]
abbrev io:List (Nat×Oi):=[(4,.dat (.int .i64))]
abbrev R:Type:=DOut ia io
def X (n:Nat):Ctx:=⟨⟨tab,[yd2.en n],0,[]⟩,19,bnOf 0 ia⟩
abbrev g1:List Si:=[.dat 0 (.slice yaD),.clo 1 (.fn 231) [],.dat 7 (.int .i64),.dat 8 (.int .i64)]
abbrev g2:List Si:=[]
def T:CT:=(.s .o (.s (.s .o (.b (.l g1 .o))) (.r g2 .o)))
def J1 (n:Nat)(m:Nat):(List (yat))×Int×Int×Unit→Option R:=jL (X n) n T (yaM Tryz.f252) (endK ia io) g1 [1,0,1,0] [] m
def J2 (n:Nat):Unit→Option R:=jR (X n) n T (yaM Tryz.f252) (endK ia io) g2 [1,1] []
def f (n:Nat)(s_:List (yat)):Option R:=fRun (X n) n T Tryz.f252 ia io (s_,())
theorem e0 (n:Nat)(s_:List (yat)):f n s_=J1 n n (s_,((s_.length:Nat):Int),0,()):=(yae _).trans (by kernel_rfl)
theorem e1 (n m:Nat)(s_:List (yat))(t7:Int)(t8:Int):J1 n (m+1) (s_,t7,t8,())=bIf ((hide (decide (t8<t7)))) (gIf (0≤t8∧t8<((s_.length:Nat):Int)) (bnd (yd2.f n (List.getD s_ t8.toNat (Va.dflt yaD))) λu1=>bIf (u1.1) (some (t8,())) (J1 n m (s_,t7,(IntKind.i64.wrap (t8+(1:Int))),())))) (J2 n (())):=(yae _).trans (by kernel_rfl)
theorem e2 (n:Nat):J2 n (())=some ((-1),()):=(yae _).trans (by kernel_rfl)
theorem ok (n:Nat):FnOk Tryz.prog 252 ia io (fRun (X n) n T Tryz.f252 ia io):=yaG mixed tabIs (yad (yac (yd2.ok n)) (yav)) Tryz.func252 (by kernel_rfl) rfl
def en (n:Nat):Entry:=yaB 252 ia io (fRun (X n) n T Tryz.f252 ia io)
end ybA
namespace ycl
abbrev ia:List Ai:=[.dat (.slice yaD),.fn (.fn 231) []]
abbrev io:List (Nat×Oi):=[(4,.dat .bool)]
abbrev R:Type:=DOut ia io
def X (n:Nat):Ctx:=⟨⟨tab,[ybA.en n],0,[]⟩,9,bnOf 0 ia⟩
def T:CT := .o
def f (n:Nat)(s_:List (yat)):Option R:=fRun (X n) n T Tryz.f230 ia io (s_,())
theorem e0 (n:Nat)(s_:List (yat)):f n s_=bnd (ybA.f n s_) λu1=>some ((hide (decide (u1.1≥(0:Int)))),()):=(yae _).trans (by kernel_rfl)
theorem ok (n:Nat):FnOk Tryz.prog 230 ia io (fRun (X n) n T Tryz.f230 ia io):=yaG mixed tabIs (yad (yac (ybA.ok n)) (yav)) Tryz.func230 (by kernel_rfl) rfl
def en (n:Nat):Entry:=yaB 230 ia io (fRun (X n) n T Tryz.f230 ia io)
end ycl
namespace yeh
abbrev ia:List Ai:=[.dat (.slice yaD)]
abbrev io:List (Nat×Oi):=[(2,.dat .bool)]
abbrev R:Type:=DOut ia io
def X (n:Nat):Ctx:=⟨⟨tab,[ycl.en n],0,[]⟩,11,bnOf 0 ia⟩
def T:CT := .o
def f (n:Nat)(list:List (yat)):Option R:=fRun (X n) n T Tryz.f183 ia io (list,())
theorem e0 (n:Nat)(list:List (yat)):f n list=bIf ((hide (decide (((list.length:Nat):Int)≤(8:Int))))) (bnd (ycl.f n list) λu1=>some ((!u1.1),())) (some (false,())):=(yae _).trans (by kernel_rfl)
theorem ok (n:Nat):FnOk Tryz.prog 183 ia io (fRun (X n) n T Tryz.f183 ia io):=yaG mixed tabIs (yad (yac (ycl.ok n)) (yav)) Tryz.func183 (by kernel_rfl) rfl
def en (n:Nat):Entry:=yaB 183 ia io (fRun (X n) n T Tryz.f183 ia io)
end yeh
namespace ycM
abbrev ia:List Ai:=[.dat (.slice yaD)]
abbrev io:List (Nat×Oi):=[(2,.dat .bool)]
abbrev R:Type:=DOut ia io
def X (n:Nat):Ctx:=⟨⟨tab,[ydQ.en n],0,[]⟩,38,bnOf 0 ia⟩
abbrev g1:List Si:=[.dat 0 (.slice yaD),.dat 3 (.int .i64)]
abbrev g2:List Si:=[.dat 0 (.slice yaD),.dat 3 (.int .i64)]
abbrev g3:List Si:=[]
def T:CT:=(.s .o (.s .o (.s (.s .o (.b (.l g1 (.s .o (.s .o (.r g2 .o)))))) (.r g3 .o))))
def J1 (n:Nat)(m:Nat):(List (yat))×Int×Unit→Option R:=jL (X n) n T (yaM Tryz.f90) (endK ia io) g1 [1,1,0,1,0] [] m
def J2 (n m1:Nat):(List (yat))×Int×Unit→Option R:=jR (X n) n T (yaM Tryz.f90) (endK ia io) g2 [1,1,0,1,0,0,1,1] [m1]
def J3 (n:Nat):Unit→Option R:=jR (X n) n T (yaM Tryz.f90) (endK ia io) g3 [1,1,1] []
def f (n:Nat)(l:List (yat)):Option R:=fRun (X n) n T Tryz.f90 ia io (l,())
theorem e0 (n:Nat)(l:List (yat)):f n l=bIf ((hide (decide (((l.length:Nat):Int)>(8:Int))))) (some (false,())) (J1 n n (l,0,())):=(yae _).trans (by kernel_rfl)
theorem e1 (n m:Nat)(l:List (yat))(i:Int):J1 n (m+1) (l,i,())=bIf ((hide (decide (i<((l.length:Nat):Int))))) (gIf (0≤i∧i<((l.length:Nat):Int)) (bnd (ydQ.f n (((List.getD l i.toNat (Va.dflt yaD)).2).1)) λu1=>bIf ((!u1.1)) (some (false,())) (gIf (0≤i∧i<((l.length:Nat):Int)) (bnd (ydQ.f n ((((List.getD l i.toNat (Va.dflt yaD)).2).2).1)) λu2=>bIf ((!u2.1)) (some (false,())) (gIf (0≤i∧i<((l.length:Nat):Int)) (bnd (ydQ.f n (((((List.getD l i.toNat (Va.dflt yaD)).2).2).2).1)) λu3=>bIf ((!u3.1)) (some (false,())) (J2 n m (l,i,())))))))) (J3 n (())):=(yae _).trans (by kernel_rfl)
theorem e2 (n m1:Nat)(l:List (yat))(i:Int):J2 n m1 (l,i,())=J1 n m1 (l,(IntKind.i64.wrap (i+(1:Int))),()):=(yae _).trans (by kernel_rfl)
theorem e3 (n:Nat):J3 n (())=some (true,()):=(yae _).trans (by kernel_rfl)
theorem ok (n:Nat):FnOk Tryz.prog 90 ia io (fRun (X n) n T Tryz.f90 ia io):=yaG mixed tabIs (yad (yac (ydQ.ok n)) (yav)) Tryz.func90 (by kernel_rfl) rfl
def en (n:Nat):Entry:=yaB 90 ia io (fRun (X n) n T Tryz.f90 ia io)
end ycM
namespace ycW
abbrev ia:List Ai:=[.dat .str]
abbrev io:List (Nat×Oi):=[(2,.dat .bool)]
abbrev R:Type:=DOut ia io
def X (n:Nat):Ctx:=⟨⟨tab,[yb8.en,yfm.en],0,[]⟩,30,bnOf 0 ia⟩
abbrev g1:List Si:=[.val 11 (.r 201100 .str),.dat 12 (.int .i64),.dat 13 (.int .i64)]
abbrev g2:List Si:=[]
def T:CT:=(.s .o (.s .o (.s .o (.s (.s .o (.b (.l g1 .o))) (.r g2 .o)))))
def J1 (n:Nat)(m:Nat):(List (ByteArray))×Int×Int×Unit→Option R:=jL (X n) n T (yaM Tryz.f178) (endK ia io) g1 [1,1,1,0,1,0] [] m
def J2 (n:Nat):Unit→Option R:=jR (X n) n T (yaM Tryz.f178) (endK ia io) g2 [1,1,1,1] []
def f (n:Nat)(s_:ByteArray):Option R:=fRun (X n) n T Tryz.f178 ia io (s_,())
theorem e0 (n:Nat)(s_:ByteArray):f n s_=bnd (yb8.f s_ (⟨#[46]⟩:ByteArray)) λu1=>bIf ((hide (((u1.1.length:Nat):Int) != (4:Int)))) (some (false,())) (J1 n n (u1.1,((u1.1.length:Nat):Int),0,())):=(yae _).trans (by kernel_rfl)
theorem e1 (n m:Nat)(t11:List (ByteArray))(t12:Int)(t13:Int):J1 n (m+1) (t11,t12,t13,())=bIf ((hide (decide (t13<t12)))) (gIf (0≤t13∧t13<((t11.length:Nat):Int)) (bIf ((hide (eqS (List.getD t11 (0+t13.toNat) (⟨#[]⟩:ByteArray)) (⟨#[]⟩:ByteArray)))) (some (false,())) (bIf ((hide (decide (((List.getD t11 (0+t13.toNat) (⟨#[]⟩:ByteArray)).size:Int)>(3:Int))))) (some (false,())) (bnd (yfm.f (List.getD t11 (0+t13.toNat) (⟨#[]⟩:ByteArray)) (⟨#[48,49,50,51,52,53,54,55,56,57]⟩:ByteArray)) λu1=>bIf ((hide (!eqS u1.1 (⟨#[]⟩:ByteArray)))) (some (false,())) (J1 n m (t11,t12,(IntKind.i64.wrap (t13+(1:Int))),())))))) (J2 n (())):=(yae _).trans (by kernel_rfl)
theorem e2 (n:Nat):J2 n (())=some (true,()):=(yae _).trans (by kernel_rfl)
theorem ok (n:Nat):FnOk Tryz.prog 178 ia io (fRun (X n) n T Tryz.f178 ia io):=yaG mixed tabIs (yad (yac (yb8.ok)) (yad (yac (yfm.ok)) (yav))) Tryz.func178 (by kernel_rfl) rfl
def en (n:Nat):Entry:=yaB 178 ia io (fRun (X n) n T Tryz.f178 ia io)
end ycW
namespace yeA
abbrev ia:List Ai:=[.dat .str,.dat (.int .u8)]
abbrev io:List (Nat×Oi):=[(4,.dat .bool)]
abbrev R:Type:=DOut ia io
def X (n:Nat):Ctx:=⟨⟨tab,[ycm.en],0,[]⟩,9,bnOf 0 ia⟩
def T:CT := .o
def f (n:Nat)(some_:ByteArray)(b:Int):Option R:=fRun (X n) n T Tryz.f179 ia io (some_,b,())
theorem e0 (n:Nat)(some_:ByteArray)(b:Int):f n some_ b=bnd (ycm.f some_ b) λu1=>some ((hide (decide (u1.1≥(0:Int)))),()):=(yae _).trans (by kernel_rfl)
theorem ok (n:Nat):FnOk Tryz.prog 179 ia io (fRun (X n) n T Tryz.f179 ia io):=yaG mixed tabIs (yad (yac (ycm.ok)) (yav)) Tryz.func179 (by kernel_rfl) rfl
def en (n:Nat):Entry:=yaB 179 ia io (fRun (X n) n T Tryz.f179 ia io)
end yeA
namespace yb4
abbrev ia:List Ai:=[.dat .str]
abbrev io:List (Nat×Oi):=[(2,.dat .bool)]
abbrev R:Type:=DOut ia io
def X (n:Nat):Ctx:=⟨⟨tab,[ycW.en n,yeA.en n],0,[]⟩,68,bnOf 0 ia⟩
abbrev g1:List Si:=[.dat 0 .str]
abbrev g2:List Si:=[.dat 0 .str,.dat 18 (.int .i64),.dat 19 (.int .i64)]
abbrev g3:List Si:=[.dat 0 .str,.dat 3 (.int .i64),.dat 18 (.int .i64),.dat 19 (.int .i64)]
abbrev g4:List Si:=[]
def T:CT:=(.s .o (.s .o (.r g1 (.s (.s .o (.b (.l g2 (.s .o (.s .o (.s (.b (.s .o (.s .o (.s .o (.r g3 .o))))) .o)))))) (.r g4 .o)))))
def J1 (n:Nat):ByteArray×Unit→Option R:=jR (X n) n T (yaM Tryz.f131) (endK ia io) g1 [1,1] []
def J2 (n:Nat)(m:Nat):ByteArray×Int×Int×Unit→Option R:=jL (X n) n T (yaM Tryz.f131) (endK ia io) g2 [1,1,0,1,0] [] m
def J3 (n m2:Nat):ByteArray×Int×Int×Int×Unit→Option R:=jR (X n) n T (yaM Tryz.f131) (endK ia io) g3 [1,1,0,1,0,0,1,1,0,0,1,1,1] [m2]
def J4 (n:Nat):Unit→Option R:=jR (X n) n T (yaM Tryz.f131) (endK ia io) g4 [1,1,1] []
def f (n:Nat)(s_:ByteArray):Option R:=fRun (X n) n T Tryz.f131 ia io (s_,())
theorem e0 (n:Nat)(s_:ByteArray):f n s_=bIf ((hide (decide ((s_.size:Int)<(3:Int))))) (some (false,())) (bIf ((hide (decide ((s_.size:Int)>(63:Int))))) (some (false,())) (bnd (ycW.f n s_) λu1=>bIf (u1.1) (some (false,())) (J1 n (s_,())))):=(yae _).trans (by kernel_rfl)
theorem e1 (n:Nat)(s_:ByteArray):J1 n (s_,())=J2 n n (s_,(s_.size:Int),0,()):=(yae _).trans (by kernel_rfl)
theorem e2 (n m:Nat)(s_:ByteArray)(t18:Int)(t19:Int):J2 n (m+1) (s_,t18,t19,())=bIf ((hide (decide (t19<t18)))) (gIf (0≤t19∧t19<(s_.size:Int)) (bnd (yeA.f n (⟨#[97,98,99,100,101,102,103,104,105,106,107,108,109,110,111,112,113,114,115,116,117,118,119,120,121,122,48,49,50,51,52,53,54,55,56,57]⟩:ByteArray) (bt s_ t19)) λu1=>bIf (u1.1) (J2 n m (s_,t18,(IntKind.i64.wrap (t19+(1:Int))),())) (gIf (0≤t19∧t19<(s_.size:Int)) (bIf ((hide ((bt s_ t19) != (45:Int)))) (gIf (0≤t19∧t19<(s_.size:Int)) (bIf ((hide ((bt s_ t19) != (46:Int)))) (some (false,())) (bIf ((hide (t19==(0:Int)))) (some (false,())) (bIf ((hide (t19==(IntKind.i64.wrap ((s_.size:Int)-(1:Int)))))) (some (false,())) (J3 n m (s_,t19,t18,t19,())))))) (bIf ((hide (t19==(0:Int)))) (some (false,())) (bIf ((hide (t19==(IntKind.i64.wrap ((s_.size:Int)-(1:Int)))))) (some (false,())) (J3 n m (s_,t19,t18,t19,())))))))) (J4 n (())):=(yae _).trans (by kernel_rfl)
theorem e3 (n m2:Nat)(s_:ByteArray)(i:Int)(t18:Int)(t19:Int):J3 n m2 (s_,i,t18,t19,())=gIf (0≤(IntKind.i64.wrap (i+(1:Int)))∧(IntKind.i64.wrap (i+(1:Int)))<(s_.size:Int)) (bIf ((hide ((bt s_ (IntKind.i64.wrap (i+(1:Int))))==(46:Int)))) (gIf (0≤i∧i<(s_.size:Int)) (bIf ((hide ((bt s_ i)==(46:Int)))) (some (false,())) (bIf ((hide ((bt s_ (IntKind.i64.wrap (i+(1:Int))))==(46:Int)))) (some (false,())) (J2 n m2 (s_,t18,(IntKind.i64.wrap (t19+(1:Int))),()))))) (bIf ((hide ((bt s_ (IntKind.i64.wrap (i+(1:Int))))==(45:Int)))) (gIf (0≤i∧i<(s_.size:Int)) (bIf ((hide ((bt s_ i)==(46:Int)))) (some (false,())) (bIf ((hide ((bt s_ (IntKind.i64.wrap (i+(1:Int))))==(46:Int)))) (some (false,())) (J2 n m2 (s_,t18,(IntKind.i64.wrap (t19+(1:Int))),()))))) (J2 n m2 (s_,t18,(IntKind.i64.wrap (t19+(1:Int))),())))):=(yae _).trans (by kernel_rfl)
theorem e4 (n:Nat):J4 n (())=some (true,()):=(yae _).trans (by kernel_rfl)
theorem ok (n:Nat):FnOk Tryz.prog 131 ia io (fRun (X n) n T Tryz.f131 ia io):=yaG mixed tabIs (yad (yac (ycW.ok n)) (yad (yac (yeA.ok n)) (yav))) Tryz.func131 (by kernel_rfl) rfl
def en (n:Nat):Entry:=yaB 131 ia io (fRun (X n) n T Tryz.f131 ia io)
end yb4
namespace ydv
abbrev ia:List Ai:=[.dat .str]
abbrev io:List (Nat×Oi):=[(2,.dat .bool)]
abbrev R:Type:=DOut ia io
def X (n:Nat):Ctx:=⟨⟨tab,[],0,[]⟩,42,bnOf 0 ia⟩
abbrev g1:List Si:=[.dat 0 .str,.dat 3 (.int .i64),.dat 4 (.int .i64),.dat 5 (.int .i64)]
abbrev g2:List Si:=[.dat 0 .str,.dat 3 (.int .i64),.dat 4 (.int .i64),.dat 5 (.int .i64)]
abbrev g3:List Si:=[.dat 3 (.int .i64),.dat 4 (.int .i64)]
def T:CT:=(.s .o (.s .o (.s (.s .o (.b (.l g1 (.s .o (.s .o (.r g2 .o)))))) (.r g3 .o))))
def J1 (n:Nat)(m:Nat):ByteArray×Int×Int×Int×Unit→Option R:=jL (X n) n T (yaM Tryz.f149) (endK ia io) g1 [1,1,0,1,0] [] m
def J2 (n m1:Nat):ByteArray×Int×Int×Int×Unit→Option R:=jR (X n) n T (yaM Tryz.f149) (endK ia io) g2 [1,1,0,1,0,0,1,1] [m1]
def J3 (n:Nat):Int×Int×Unit→Option R:=jR (X n) n T (yaM Tryz.f149) (endK ia io) g3 [1,1,1] []
def f (n:Nat)(s_:ByteArray):Option R:=fRun (X n) n T Tryz.f149 ia io (s_,())
theorem e0 (n:Nat)(s_:ByteArray):f n s_=J1 n n (s_,0,0,0,()):=(yae _).trans (by kernel_rfl)
theorem e1 (n m:Nat)(s_:ByteArray)(points:Int)(digits:Int)(i:Int):J1 n (m+1) (s_,points,digits,i,())=bIf ((hide (decide (i<(s_.size:Int))))) (gIf (0≤i∧i<(s_.size:Int)) (bIf ((hide ((bt s_ i)==(46:Int)))) (bIf ((hide (digits==(0:Int)))) (some (false,())) (J2 n m (s_,(IntKind.i64.wrap (points+(1:Int))),0,i,()))) (gIf (0≤i∧i<(s_.size:Int)) (bIf ((hide (decide ((bt s_ i)<(48:Int))))) (some (false,())) (gIf (0≤i∧i<(s_.size:Int)) (bIf ((hide (decide ((bt s_ i)>(57:Int))))) (some (false,())) (bIf ((hide (decide ((IntKind.i64.wrap (digits+(1:Int)))>(3:Int))))) (some (false,())) (J2 n m (s_,points,(IntKind.i64.wrap (digits+(1:Int))),i,()))))))))) (J3 n (points,digits,())):=(yae _).trans (by kernel_rfl)
theorem e2 (n m1:Nat)(s_:ByteArray)(points:Int)(digits:Int)(i:Int):J2 n m1 (s_,points,digits,i,())=J1 n m1 (s_,points,digits,(IntKind.i64.wrap (i+(1:Int))),()):=(yae _).trans (by kernel_rfl)
theorem e3 (n:Nat)(points:Int)(digits:Int):J3 n (points,digits,())=bIf ((hide (points==(3:Int)))) (some ((hide (decide (digits>(0:Int)))),())) (some (false,())):=(yae _).trans (by kernel_rfl)
theorem ok (n:Nat):FnOk Tryz.prog 149 ia io (fRun (X n) n T Tryz.f149 ia io):=yaG mixed tabIs (yav) Tryz.func149 (by kernel_rfl) rfl
def en (n:Nat):Entry:=yaB 149 ia io (fRun (X n) n T Tryz.f149 ia io)
end ydv
namespace yd9
abbrev ia:List Ai:=[.dat (.int .u8)]
abbrev io:List (Nat×Oi):=[(2,.dat .bool)]
abbrev R:Type:=DOut ia io
def X (n:Nat):Ctx:=⟨⟨tab,[],0,[]⟩,17,bnOf 0 ia⟩
def T:CT := .o
def f (n:Nat)(b:Int):Option R:=fRun (X n) n T Tryz.f148 ia io (b,())
theorem e0 (n:Nat)(b:Int):f n b=bIf ((hide (decide (b≥(97:Int))))) (bIf ((hide (decide (b≤(122:Int))))) (some (true,())) (bIf ((hide (decide (b≥(48:Int))))) (some ((hide (decide (b≤(57:Int)))),())) (some (false,())))) (bIf ((hide (decide (b≥(48:Int))))) (some ((hide (decide (b≤(57:Int)))),())) (some (false,()))):=(yae _).trans (by kernel_rfl)
theorem ok (n:Nat):FnOk Tryz.prog 148 ia io (fRun (X n) n T Tryz.f148 ia io):=yaG mixed tabIs (yav) Tryz.func148 (by kernel_rfl) rfl
def en (n:Nat):Entry:=yaB 148 ia io (fRun (X n) n T Tryz.f148 ia io)
end yd9
namespace yb3
abbrev ia:List Ai:=[.dat .str]
abbrev io:List (Nat×Oi):=[(2,.dat .bool)]
abbrev R:Type:=DOut ia io
def X (n:Nat):Ctx:=⟨⟨tab,[yd9.en n,ydv.en n],0,[]⟩,85,bnOf 0 ia⟩
abbrev g1:List Si:=[.dat 0 .str]
abbrev g2:List Si:=[.dat 0 .str,.dat 3 (.int .i64)]
abbrev g3:List Si:=[.dat 0 .str,.dat 3 (.int .i64)]
abbrev g4:List Si:=[.dat 0 .str,.dat 3 (.int .i64)]
abbrev g5:List Si:=[]
def T:CT:=(.s .o (.s .o (.r g1 (.s (.s .o (.b (.l g2 (.s .o (.s (.b (.s .o (.r g3 .o))) (.r g4 .o)))))) (.r g5 .o)))))
def J1 (n:Nat):ByteArray×Unit→Option R:=jR (X n) n T (yaM Tryz.f81) (endK ia io) g1 [1,1] []
def J2 (n:Nat)(m:Nat):ByteArray×Int×Unit→Option R:=jL (X n) n T (yaM Tryz.f81) (endK ia io) g2 [1,1,0,1,0] [] m
def J3 (n m2:Nat):ByteArray×Int×Unit→Option R:=jR (X n) n T (yaM Tryz.f81) (endK ia io) g3 [1,1,0,1,0,0,1,0,0,1] [m2]
def J4 (n m2:Nat):ByteArray×Int×Unit→Option R:=jR (X n) n T (yaM Tryz.f81) (endK ia io) g4 [1,1,0,1,0,0,1,1] [m2]
def J5 (n:Nat):Unit→Option R:=jR (X n) n T (yaM Tryz.f81) (endK ia io) g5 [1,1,1] []
def f (n:Nat)(s_:ByteArray):Option R:=fRun (X n) n T Tryz.f81 ia io (s_,())
theorem e0 (n:Nat)(s_:ByteArray):f n s_=bIf ((hide (decide ((s_.size:Int)<(3:Int))))) (some (false,())) (bIf ((hide (decide ((s_.size:Int)>(63:Int))))) (some (false,())) (gIf (0≤(0:Int)∧(0:Int)<(s_.size:Int)) (bnd (yd9.f n (bt s_ 0)) λu1=>bIf ((!u1.1)) (some (false,())) (gIf (0≤(IntKind.i64.wrap ((s_.size:Int)-(1:Int)))∧(IntKind.i64.wrap ((s_.size:Int)-(1:Int)))<(s_.size:Int)) (bnd (yd9.f n (bt s_ (IntKind.i64.wrap ((s_.size:Int)-(1:Int))))) λu2=>bIf ((!u2.1)) (some (false,())) (bnd (ydv.f n s_) λu3=>bIf (u3.1) (some (false,())) (J1 n (s_,())))))))):=(yae _).trans (by kernel_rfl)
theorem e1 (n:Nat)(s_:ByteArray):J1 n (s_,())=J2 n n (s_,0,()):=(yae _).trans (by kernel_rfl)
theorem e2 (n m:Nat)(s_:ByteArray)(i:Int):J2 n (m+1) (s_,i,())=bIf ((hide (decide (i<(s_.size:Int))))) (gIf (0≤i∧i<(s_.size:Int)) (bnd (yd9.f n (bt s_ i)) λu1=>bIf ((!u1.1)) (gIf (0≤i∧i<(s_.size:Int)) (bIf ((hide ((bt s_ i) != (45:Int)))) (gIf (0≤i∧i<(s_.size:Int)) (bIf ((hide ((bt s_ i) != (46:Int)))) (some (false,())) (J3 n m (s_,i,())))) (J3 n m (s_,i,())))) (J3 n m (s_,i,())))) (J5 n (())):=(yae _).trans (by kernel_rfl)
theorem e3 (n m2:Nat)(s_:ByteArray)(i:Int):J3 n m2 (s_,i,())=bIf ((hide (decide (i>(0:Int))))) (gIf (0≤i∧i<(s_.size:Int)) (bnd (yd9.f n (bt s_ i)) λu1=>bIf ((!u1.1)) (gIf (0≤(IntKind.i64.wrap (i-(1:Int)))∧(IntKind.i64.wrap (i-(1:Int)))<(s_.size:Int)) (bnd (yd9.f n (bt s_ (IntKind.i64.wrap (i-(1:Int))))) λu2=>bIf ((!u2.1)) (gIf (0≤i∧i<(s_.size:Int)) (bIf ((hide ((bt s_ i)==(45:Int)))) (gIf (0≤(IntKind.i64.wrap (i-(1:Int)))∧(IntKind.i64.wrap (i-(1:Int)))<(s_.size:Int)) (bIf ((!(hide ((bt s_ (IntKind.i64.wrap (i-(1:Int))))==(45:Int))))) (some (false,())) (J4 n m2 (s_,i,())))) (some (false,())))) (J4 n m2 (s_,i,())))) (J4 n m2 (s_,i,())))) (J4 n m2 (s_,i,())):=(yae _).trans (by kernel_rfl)
theorem e4 (n m2:Nat)(s_:ByteArray)(i:Int):J4 n m2 (s_,i,())=J2 n m2 (s_,(IntKind.i64.wrap (i+(1:Int))),()):=(yae _).trans (by kernel_rfl)
theorem e5 (n:Nat):J5 n (())=some (true,()):=(yae _).trans (by kernel_rfl)
theorem ok (n:Nat):FnOk Tryz.prog 81 ia io (fRun (X n) n T Tryz.f81 ia io):=yaG mixed tabIs (yad (yac (yd9.ok n)) (yad (yac (ydv.ok n)) (yav))) Tryz.func81 (by kernel_rfl) rfl
def en (n:Nat):Entry:=yaB 81 ia io (fRun (X n) n T Tryz.f81 ia io)
end yb3
namespace ych
abbrev ia:List Ai:=[.dat (.slice yaD),.dat (.slice yaD)]
abbrev io:List (Nat×Oi):=[(4,.dat .bool)]
abbrev R:Type:=DOut ia io
def X (n:Nat):Ctx:=⟨⟨tab,[],0,[]⟩,26,bnOf 0 ia⟩
abbrev g1:List Si:=[.dat 0 (.slice yaD),.dat 1 (.slice yaD),.dat 5 (.int .i64)]
abbrev g2:List Si:=[]
def T:CT:=(.s .o (.s .o (.s (.s .o (.b (.l g1 .o))) (.r g2 .o))))
def J1 (n:Nat)(m:Nat):(List (yat))×(List (yat))×Int×Unit→Option R:=jL (X n) n T (yaM Tryz.f104) (endK ia io) g1 [1,1,0,1,0] [] m
def J2 (n:Nat):Unit→Option R:=jR (X n) n T (yaM Tryz.f104) (endK ia io) g2 [1,1,1] []
def f (n:Nat)(a:List (yat))(b:List (yat)):Option R:=fRun (X n) n T Tryz.f104 ia io (a,b,())
theorem e0 (n:Nat)(a:List (yat))(b:List (yat)):f n a b=bIf ((hide (((a.length:Nat):Int) != ((b.length:Nat):Int)))) (some (false,())) (J1 n n (a,b,0,())):=(yae _).trans (by kernel_rfl)
theorem e1 (n m:Nat)(a:List (yat))(b:List (yat))(i:Int):J1 n (m+1) (a,b,i,())=bIf ((hide (decide (i<((a.length:Nat):Int))))) (gIf (0≤i∧i<((a.length:Nat):Int)) (gIf (0≤i∧i<((b.length:Nat):Int)) (bIf ((hide (!(eqD yaD (List.getD a i.toNat (Va.dflt yaD)) (List.getD b i.toNat (Va.dflt yaD)))))) (some (false,())) (J1 n m (a,b,(IntKind.i64.wrap (i+(1:Int))),()))))) (J2 n (())):=(yae _).trans (by kernel_rfl)
theorem e2 (n:Nat):J2 n (())=some (true,()):=(yae _).trans (by kernel_rfl)
theorem ok (n:Nat):FnOk Tryz.prog 104 ia io (fRun (X n) n T Tryz.f104 ia io):=yaG mixed tabIs (yav) Tryz.func104 (by kernel_rfl) rfl
def en (n:Nat):Entry:=yaB 104 ia io (fRun (X n) n T Tryz.f104 ia io)
end ych
namespace yce
abbrev ia:List Ai:=[.dat (.slice yaC),.dat (.slice yaC)]
abbrev io:List (Nat×Oi):=[(4,.dat .bool)]
abbrev R:Type:=DOut ia io
def X (n:Nat):Ctx:=⟨⟨tab,[ycq.en n],0,[]⟩,81,bnOf 0 ia⟩
abbrev g1:List Si:=[.dat 0 (.slice yaC),.dat 1 (.slice yaC),.dat 5 (.int .i64)]
abbrev g2:List Si:=[.dat 0 (.slice yaC),.dat 1 (.slice yaC),.dat 5 (.int .i64)]
abbrev g3:List Si:=[]
def T:CT:=(.s .o (.s .o (.s (.s .o (.b (.l g1 (.s .o (.s .o (.r g2 .o)))))) (.r g3 .o))))
def J1 (n:Nat)(m:Nat):(List (yau))×(List (yau))×Int×Unit→Option R:=jL (X n) n T (yaM Tryz.f103) (endK ia io) g1 [1,1,0,1,0] [] m
def J2 (n m1:Nat):(List (yau))×(List (yau))×Int×Unit→Option R:=jR (X n) n T (yaM Tryz.f103) (endK ia io) g2 [1,1,0,1,0,0,1,1] [m1]
def J3 (n:Nat):Unit→Option R:=jR (X n) n T (yaM Tryz.f103) (endK ia io) g3 [1,1,1] []
def f (n:Nat)(a:List (yau))(b:List (yau)):Option R:=fRun (X n) n T Tryz.f103 ia io (a,b,())
theorem e0 (n:Nat)(a:List (yau))(b:List (yau)):f n a b=bIf ((hide (((a.length:Nat):Int) != ((b.length:Nat):Int)))) (some (false,())) (J1 n n (a,b,0,())):=(yae _).trans (by kernel_rfl)
theorem e1 (n m:Nat)(a:List (yau))(b:List (yau))(i:Int):J1 n (m+1) (a,b,i,())=bIf ((hide (decide (i<((a.length:Nat):Int))))) (gIf (0≤i∧i<((a.length:Nat):Int)) (gIf (0≤i∧i<((b.length:Nat):Int)) (bIf ((hide (!eqS ((List.getD a i.toNat (Va.dflt yaC)).1) ((List.getD b i.toNat (Va.dflt yaC)).1)))) (some (false,())) (gIf (0≤i∧i<((a.length:Nat):Int)) (gIf (0≤i∧i<((b.length:Nat):Int)) (bnd (ycq.f n (((List.getD a i.toNat (Va.dflt yaC)).2).1) (((List.getD b i.toNat (Va.dflt yaC)).2).1)) λu1=>bIf ((!u1.1)) (some (false,())) (gIf (0≤i∧i<((a.length:Nat):Int)) (gIf (0≤i∧i<((b.length:Nat):Int)) (bIf ((hide (((((List.getD a i.toNat (Va.dflt yaC)).2).2).1) != ((((List.getD b i.toNat (Va.dflt yaC)).2).2).1)))) (some (false,())) (gIf (0≤i∧i<((a.length:Nat):Int)) (gIf (0≤i∧i<((b.length:Nat):Int)) (bIf ((hide ((((((List.getD a i.toNat (Va.dflt yaC)).2).2).2).1) != (((((List.getD b i.toNat (Va.dflt yaC)).2).2).2).1)))) (some (false,())) (gIf (0≤i∧i<((a.length:Nat):Int)) (gIf (0≤i∧i<((b.length:Nat):Int)) (bIf ((hide (!(((((((List.getD a i.toNat (Va.dflt yaC)).2).2).2).2).1)==((((((List.getD b i.toNat (Va.dflt yaC)).2).2).2).2).1))))) (some (false,())) (J2 n m (a,b,i,()))))))))))))))))) (J3 n (())):=(yae _).trans (by kernel_rfl)
theorem e2 (n m1:Nat)(a:List (yau))(b:List (yau))(i:Int):J2 n m1 (a,b,i,())=J1 n m1 (a,b,(IntKind.i64.wrap (i+(1:Int))),()):=(yae _).trans (by kernel_rfl)
theorem e3 (n:Nat):J3 n (())=some (true,()):=(yae _).trans (by kernel_rfl)
theorem ok (n:Nat):FnOk Tryz.prog 103 ia io (fRun (X n) n T Tryz.f103 ia io):=yaG mixed tabIs (yad (yac (ycq.ok n)) (yav)) Tryz.func103 (by kernel_rfl) rfl
def en (n:Nat):Entry:=yaB 103 ia io (fRun (X n) n T Tryz.f103 ia io)
end yce
namespace ydW
abbrev ia:List Ai:=[.dat yfa,.dat yfa]
abbrev io:List (Nat×Oi):=[(4,.dat .bool)]
abbrev R:Type:=DOut ia io
def X (n:Nat):Ctx:=⟨⟨tab,[ycC.en n,ycq.en n,yce.en n,ych.en n],0,[]⟩,85,bnOf 0 ia⟩
abbrev g1:List Si:=[.ref 2 2 yfa,.ref 3 3 yfa,.box 2 (.d yfa),.box 3 (.d yfa)]
def T:CT:=(.s .o (.s .o (.r g1 .o)))
def J1 (n:Nat):yeO×yeO×Unit→Option R:=jR (X n) n T (yaM Tryz.f54) (endK ia io) g1 [1,1] []
def f (n:Nat)(a:yeO)(b:yeO):Option R:=fRun (X n) n T Tryz.f54 ia io (a,b,())
theorem e0 (n:Nat)(a:yeO)(b:yeO):f n a b=bIf ((hide (a.1 != b.1))) (some (false,())) (bIf ((hide (a.2.1 != b.2.1))) (some (false,())) (bIf ((hide (!eqS a.2.2.1 b.2.2.1))) (some (false,())) (bIf ((hide (!eqS a.2.2.2.1 b.2.2.2.1))) (some (false,())) (bIf ((hide (a.2.2.2.2.1 != b.2.2.2.2.1))) (some (false,())) (bIf ((hide (!(eqD yaO a.2.2.2.2.2.2.1 b.2.2.2.2.2.2.1)))) (some (false,())) (bIf ((hide (!(eqD yaA a.2.2.2.2.2.2.2.2.1 b.2.2.2.2.2.2.2.2.1)))) (some (false,())) (bIf ((hide (!(eqD T_api_Part a.2.2.2.2.2.2.2.2.2.2.2.1 b.2.2.2.2.2.2.2.2.2.2.2.1)))) (some (false,())) (J1 n (a,b,()))))))))):=(yae _).trans (by kernel_rfl)
theorem e1 (n:Nat)(a:yeO)(b:yeO):J1 n (a,b,())=bnd (ycC.f n a.2.2.2.2.2.1 b.2.2.2.2.2.1) λu1=>bIf (u1.1) (bnd (ycq.f n a.2.2.2.2.2.2.2.1 b.2.2.2.2.2.2.2.1) λu2=>bIf (u2.1) (bnd (yce.f n a.2.2.2.2.2.2.2.2.2.1 b.2.2.2.2.2.2.2.2.2.1) λu3=>bIf (u3.1) (bnd (ych.f n a.2.2.2.2.2.2.2.2.2.2.1 b.2.2.2.2.2.2.2.2.2.2.1) λu4=>some (u4.1,())) (some (false,()))) (some (false,()))) (some (false,())):=(yae _).trans (by kernel_rfl)
theorem ok (n:Nat):FnOk Tryz.prog 54 ia io (fRun (X n) n T Tryz.f54 ia io):=yaG mixed tabIs (yad (yac (ycC.ok n)) (yad (yac (ycq.ok n)) (yad (yac (yce.ok n)) (yad (yac (ych.ok n)) (yav))))) Tryz.func54 (by kernel_rfl) rfl
def en (n:Nat):Entry:=yaB 54 ia io (fRun (X n) n T Tryz.f54 ia io)
end ydW
namespace ydK
abbrev ia:List Ai:=[.dat yaC,.dat yaC]
abbrev io:List (Nat×Oi):=[(4,.dat .bool)]
abbrev R:Type:=DOut ia io
def X (n:Nat):Ctx:=⟨⟨tab,[yde.en n],0,[]⟩,38,bnOf 0 ia⟩
def T:CT := .o
def f (n:Nat)(a:yau)(b:yau):Option R:=fRun (X n) n T Tryz.f196 ia io (a,b,())
theorem e0 (n:Nat)(a:yau)(b:yau):f n a b=bIf ((hide (eqS a.1 b.1))) (bIf ((hide (a.2.2.1==b.2.2.1))) (bIf ((hide (a.2.2.2.1==b.2.2.2.1))) (bIf ((hide (a.2.2.2.2.1==b.2.2.2.2.1))) (bnd (yde.f n a.2.1 b.2.1) λu1=>some (u1.1,())) (some (false,()))) (some (false,()))) (some (false,()))) (some (false,())):=(yae _).trans (by kernel_rfl)
theorem ok (n:Nat):FnOk Tryz.prog 196 ia io (fRun (X n) n T Tryz.f196 ia io):=yaG mixed tabIs (yad (yac (yde.ok n)) (yav)) Tryz.func196 (by kernel_rfl) rfl
def en (n:Nat):Entry:=yaB 196 ia io (fRun (X n) n T Tryz.f196 ia io)
end ydK
namespace ybI
abbrev ia:List Ai:=[.dat (.slice yaC),.dat (.slice yaC),.fn (.fn 196) []]
abbrev io:List (Nat×Oi):=[(6,.dat .bool)]
abbrev R:Type:=DOut ia io
def X (n:Nat):Ctx:=⟨⟨tab,[ydK.en n],0,[]⟩,32,bnOf 0 ia⟩
abbrev g1:List Si:=[.dat 1 (.slice yaC),.clo 2 (.fn 196) [],.dat 15 (.slice yaC),.dat 16 (.int .i64),.dat 17 (.int .i64)]
abbrev g2:List Si:=[]
def T:CT:=(.s .o (.s .o (.s (.s .o (.b (.l g1 .o))) (.r g2 .o))))
def J1 (n:Nat)(m:Nat):(List (yau))×(List (yau))×Int×Int×Unit→Option R:=jL (X n) n T (yaM Tryz.f195) (endK ia io) g1 [1,1,0,1,0] [] m
def J2 (n:Nat):Unit→Option R:=jR (X n) n T (yaM Tryz.f195) (endK ia io) g2 [1,1,1] []
def f (n:Nat)(s1:List (yau))(s2:List (yau)):Option R:=fRun (X n) n T Tryz.f195 ia io (s1,s2,())
theorem e0 (n:Nat)(s1:List (yau))(s2:List (yau)):f n s1 s2=bIf ((hide (((s1.length:Nat):Int) != ((s2.length:Nat):Int)))) (some (false,())) (J1 n n (s2,s1,((s1.length:Nat):Int),0,())):=(yae _).trans (by kernel_rfl)
theorem e1 (n m:Nat)(s2:List (yau))(t15:List (yau))(t16:Int)(t17:Int):J1 n (m+1) (s2,t15,t16,t17,())=bIf ((hide (decide (t17<t16)))) (gIf (0≤t17∧t17<((t15.length:Nat):Int)) (gIf (0≤t17∧t17<((s2.length:Nat):Int)) (bnd (ydK.f n (List.getD t15 t17.toNat (Va.dflt yaC)) (List.getD s2 t17.toNat (Va.dflt yaC))) λu1=>bIf ((!u1.1)) (some (false,())) (J1 n m (s2,t15,t16,(IntKind.i64.wrap (t17+(1:Int))),()))))) (J2 n (())):=(yae _).trans (by kernel_rfl)
theorem e2 (n:Nat):J2 n (())=some (true,()):=(yae _).trans (by kernel_rfl)
theorem ok (n:Nat):FnOk Tryz.prog 195 ia io (fRun (X n) n T Tryz.f195 ia io):=yaG mixed tabIs (yad (yac (ydK.ok n)) (yav)) Tryz.func195 (by kernel_rfl) rfl
def en (n:Nat):Entry:=yaB 195 ia io (fRun (X n) n T Tryz.f195 ia io)
end ybI
namespace ydA
abbrev ia:List Ai:=[.dat (.slice yaC),.dat (.slice yaC)]
abbrev io:List (Nat×Oi):=[(4,.dat .bool)]
abbrev R:Type:=DOut ia io
def X (n:Nat):Ctx:=⟨⟨tab,[ybI.en n],0,[]⟩,8,bnOf 0 ia⟩
def T:CT := .o
def f (n:Nat)(a:List (yau))(b:List (yau)):Option R:=fRun (X n) n T Tryz.f140 ia io (a,b,())
theorem e0 (n:Nat)(a:List (yau))(b:List (yau)):f n a b=bnd (ybI.f n a b) λu1=>some (u1.1,()):=(yae _).trans (by kernel_rfl)
theorem ok (n:Nat):FnOk Tryz.prog 140 ia io (fRun (X n) n T Tryz.f140 ia io):=yaG mixed tabIs (yad (yac (ybI.ok n)) (yav)) Tryz.func140 (by kernel_rfl) rfl
def en (n:Nat):Entry:=yaB 140 ia io (fRun (X n) n T Tryz.f140 ia io)
end ydA
namespace ybX
abbrev ia:List Ai:=[.dat (.slice yaD),.dat (.slice yaD)]
abbrev io:List (Nat×Oi):=[(4,.dat .bool)]
abbrev R:Type:=DOut ia io
def X (n:Nat):Ctx:=⟨⟨tab,[],0,[]⟩,26,bnOf 0 ia⟩
abbrev g1:List Si:=[.dat 0 (.slice yaD),.dat 1 (.slice yaD),.dat 12 (.int .i64),.dat 13 (.int .i64)]
abbrev g2:List Si:=[]
def T:CT:=(.s .o (.s .o (.s (.s .o (.b (.l g1 .o))) (.r g2 .o))))
def J1 (n:Nat)(m:Nat):(List (yat))×(List (yat))×Int×Int×Unit→Option R:=jL (X n) n T (yaM Tryz.f141) (endK ia io) g1 [1,1,0,1,0] [] m
def J2 (n:Nat):Unit→Option R:=jR (X n) n T (yaM Tryz.f141) (endK ia io) g2 [1,1,1] []
def f (n:Nat)(s1:List (yat))(s2:List (yat)):Option R:=fRun (X n) n T Tryz.f141 ia io (s1,s2,())
theorem e0 (n:Nat)(s1:List (yat))(s2:List (yat)):f n s1 s2=bIf ((hide (((s1.length:Nat):Int) != ((s2.length:Nat):Int)))) (some (false,())) (J1 n n (s1,s2,((s1.length:Nat):Int),0,())):=(yae _).trans (by kernel_rfl)
theorem e1 (n m:Nat)(s1:List (yat))(s2:List (yat))(t12:Int)(t13:Int):J1 n (m+1) (s1,s2,t12,t13,())=bIf ((hide (decide (t13<t12)))) (gIf (0≤t13∧t13<((s1.length:Nat):Int)) (gIf (0≤t13∧t13<((s2.length:Nat):Int)) (bIf ((hide (!(eqD yaD (List.getD s1 t13.toNat (Va.dflt yaD)) (List.getD s2 t13.toNat (Va.dflt yaD)))))) (some (false,())) (J1 n m (s1,s2,t12,(IntKind.i64.wrap (t13+(1:Int))),()))))) (J2 n (())):=(yae _).trans (by kernel_rfl)
theorem e2 (n:Nat):J2 n (())=some (true,()):=(yae _).trans (by kernel_rfl)
theorem ok (n:Nat):FnOk Tryz.prog 141 ia io (fRun (X n) n T Tryz.f141 ia io):=yaG mixed tabIs (yav) Tryz.func141 (by kernel_rfl) rfl
def en (n:Nat):Entry:=yaB 141 ia io (fRun (X n) n T Tryz.f141 ia io)
end ybX
namespace ydu
abbrev ia:List Ai:=[.dat (.int .u64)]
abbrev io:List (Nat×Oi):=[(2,.val (.r 0 (.int .u8)))]
abbrev R:Type:=DOut ia io
def X (n:Nat):Ctx:=⟨⟨tab,[],0,[]⟩,19,bnOf 0 ia⟩
abbrev g1:List Si:=[.dat 0 (.int .u64),.val 3 (.r 200300 (.int .u8))]
abbrev g2:List Si:=[.dat 0 (.int .u64),.val 3 (.r 200300 (.int .u8))]
def T:CT:=(.s .o (.s .o (.s (.b (.l g1 .o)) (.r g2 .o))))
def J1 (n:Nat)(m:Nat):Int×(List (Int))×Unit→Option R:=jL (X n) n T (yaM Tryz.f118) (endK ia io) g1 [1,1,0,0] [] m
def J2 (n:Nat):Int×(List (Int))×Unit→Option R:=jR (X n) n T (yaM Tryz.f118) (endK ia io) g2 [1,1,1] []
def f (n:Nat)(n_:Int):Option R:=fRun (X n) n T Tryz.f118 ia io (n_,())
theorem e0 (n:Nat)(n_:Int):f n n_=J1 n n (n_,[],()):=(yae _).trans (by kernel_rfl)
theorem e1 (n m:Nat)(n_:Int)(out:List (Int)):J1 n (m+1) (n_,out,())=bIf ((hide (decide (n_≥(128:Int))))) (gIf ((out.length+1)*1≤70368744177664) (gNo ((7:Int)<0) (J1 n m ((shrI .u64 n_ 7),(out++([(bitI .or .u8 (IntKind.u8.wrap n_) 128)]:List (Int))),())))) (J2 n (n_,out,())):=(yae _).trans (by kernel_rfl)
theorem e2 (n:Nat)(n_:Int)(out:List (Int)):J2 n (n_,out,())=gIf ((out.length+1)*1≤70368744177664) (some ((out++([(IntKind.u8.wrap n_)]:List (Int))),())):=(yae _).trans (by kernel_rfl)
theorem ok (n:Nat):FnOk Tryz.prog 118 ia io (fRun (X n) n T Tryz.f118 ia io):=yaG mixed tabIs (yav) Tryz.func118 (by kernel_rfl) rfl
def en (n:Nat):Entry:=yaB 118 ia io (fRun (X n) n T Tryz.f118 ia io)
end ydu
namespace yfC
abbrev ia:List Ai:=[.dat (.int .i64)]
abbrev io:List (Nat×Oi):=[(2,.dat (.int .u64))]
abbrev R:Type:=DOut ia io
def X (n:Nat):Ctx:=⟨⟨tab,[],0,[]⟩,10,bnOf 0 ia⟩
def T:CT := .o
def f (n:Nat)(n_:Int):Option R:=fRun (X n) n T Tryz.f176 ia io (n_,())
theorem e0 (n:Nat)(n_:Int):f n n_=gNo ((1:Int)<0) (gNo ((63:Int)<0) (some ((bitI .xor .u64 (shlI .u64 (IntKind.u64.wrap n_) 1) (IntKind.u64.wrap (shrI .i64 n_ 63))),()))):=(yae _).trans (by kernel_rfl)
theorem ok (n:Nat):FnOk Tryz.prog 176 ia io (fRun (X n) n T Tryz.f176 ia io):=yaG mixed tabIs (yav) Tryz.func176 (by kernel_rfl) rfl
def en (n:Nat):Entry:=yaB 176 ia io (fRun (X n) n T Tryz.f176 ia io)
end yfC
namespace ydV
abbrev ia:List Ai:=[.dat (.int .u64)]
abbrev io:List (Nat×Oi):=[(2,.val (.r 0 (.int .u8)))]
abbrev R:Type:=DOut ia io
def X (n:Nat):Ctx:=⟨⟨tab,[],0,[]⟩,27,bnOf 0 ia⟩
abbrev g1:List Si:=[.dat 0 (.int .u64),.val 3 (.r 200300 (.int .u8))]
abbrev g2:List Si:=[.val 3 (.r 200300 (.int .u8))]
def T:CT:=(.s .o (.s .o (.s (.b (.l g1 .o)) (.r g2 .o))))
def J1 (n:Nat)(m:Nat):Int×(List (Int))×Unit→Option R:=jL (X n) n T (yaM Tryz.f67) (endK ia io) g1 [1,1,0,0] [] m
def J2 (n:Nat):(List (Int))×Unit→Option R:=jR (X n) n T (yaM Tryz.f67) (endK ia io) g2 [1,1,1] []
def f (n:Nat)(n_:Int):Option R:=fRun (X n) n T Tryz.f67 ia io (n_,())
theorem e0 (n:Nat)(n_:Int):f n n_=gNo ((128:Int)=0) (J1 n n (n_,([(IntKind.u8.wrap (Int.tmod n_ 128))]:List (Int)),())):=(yae _).trans (by kernel_rfl)
theorem e1 (n m:Nat)(n_:Int)(out:List (Int)):J1 n (m+1) (n_,out,())=bIf ((hide (decide (n_≥(128:Int))))) (gIf (0≤(IntKind.i64.wrap (((out.length:Nat):Int)-(1:Int)))∧(IntKind.i64.wrap (((out.length:Nat):Int)-(1:Int)))<((out.length:Nat):Int)) (gIf (0≤(IntKind.i64.wrap (((out.length:Nat):Int)-(1:Int)))∧(IntKind.i64.wrap (((out.length:Nat):Int)-(1:Int)))<((out.length:Nat):Int)) (gNo ((128:Int)=0) (gNo ((128:Int)=0) (gIf (((List.set out (0+((IntKind.i64.wrap (((out.length:Nat):Int)-(1:Int))).toNat)) (IntKind.u8.wrap ((List.getD out (0+((IntKind.i64.wrap (((out.length:Nat):Int)-(1:Int))).toNat)) 0)+(128:Int)))).length+1)*1≤70368744177664) (J1 n m ((IntKind.u64.wrap (Int.tdiv n_ 128)),((List.set out (0+((IntKind.i64.wrap (((out.length:Nat):Int)-(1:Int))).toNat)) (IntKind.u8.wrap ((List.getD out (0+((IntKind.i64.wrap (((out.length:Nat):Int)-(1:Int))).toNat)) 0)+(128:Int))))++([(IntKind.u8.wrap (Int.tmod (IntKind.u64.wrap (Int.tdiv n_ 128)) 128))]:List (Int))),()))))))) (J2 n (out,())):=(yae _).trans (by kernel_rfl)
theorem e2 (n:Nat)(out:List (Int)):J2 n (out,())=some (out,()):=(yae _).trans (by kernel_rfl)
theorem ok (n:Nat):FnOk Tryz.prog 67 ia io (fRun (X n) n T Tryz.f67 ia io):=yaG mixed tabIs (yav) Tryz.func67 (by kernel_rfl) rfl
def en (n:Nat):Entry:=yaB 67 ia io (fRun (X n) n T Tryz.f67 ia io)
end ydV
namespace ye9
abbrev ia:List Ai:=[.dat (.int .i64)]
abbrev io:List (Nat×Oi):=[(2,.dat (.int .u64))]
abbrev R:Type:=DOut ia io
def X (n:Nat):Ctx:=⟨⟨tab,[],0,[]⟩,14,bnOf 0 ia⟩
def T:CT := .o
def f (n:Nat)(n_:Int):Option R:=fRun (X n) n T Tryz.f127 ia io (n_,())
theorem e0 (n:Nat)(n_:Int):f n n_=bIf ((hide (decide (n_≥(0:Int))))) (some ((IntKind.u64.wrap ((2:Int)*(IntKind.u64.wrap n_))),())) (some ((IntKind.u64.wrap ((IntKind.u64.wrap ((2:Int)*(IntKind.u64.wrap (IntKind.i64.wrap (0-(IntKind.i64.wrap (n_+(1:Int))))))))+(1:Int))),())):=(yae _).trans (by kernel_rfl)
theorem ok (n:Nat):FnOk Tryz.prog 127 ia io (fRun (X n) n T Tryz.f127 ia io):=yaG mixed tabIs (yav) Tryz.func127 (by kernel_rfl) rfl
def en (n:Nat):Entry:=yaB 127 ia io (fRun (X n) n T Tryz.f127 ia io)
end ye9
namespace ybz
abbrev ia:List Ai:=[.dat (.int .u64)]
abbrev io:List (Nat×Oi):=[(2,.dat .str)]
abbrev R:Type:=DOut ia io
def X (n:Nat):Ctx:=⟨⟨tab,[ydV.en n],0,[]⟩,6,bnOf 0 ia⟩
def T:CT := .o
def f (n:Nat)(n_:Int):Option R:=fRun (X n) n T Tryz.f33 ia io (n_,())
theorem e0 (n:Nat)(n_:Int):f n n_=bnd (ydV.f n n_) λu1=>some ((yaT u1.1),()):=(yae _).trans (by kernel_rfl)
theorem ok (n:Nat):FnOk Tryz.prog 33 ia io (fRun (X n) n T Tryz.f33 ia io):=yaG mixed tabIs (yad (yac (ydV.ok n)) (yav)) Tryz.func33 (by kernel_rfl) rfl
def en (n:Nat):Entry:=yaB 33 ia io (fRun (X n) n T Tryz.f33 ia io)
end ybz
namespace ybn
abbrev ia:List Ai:=[.dat (.slice (.int .u8)),.dat (.slice (.int .u8))]
abbrev io:List (Nat×Oi):=[(4,.dat .bool)]
abbrev R:Type:=DOut ia io
def X (n:Nat):Ctx:=⟨⟨tab,[],0,[]⟩,10,bnOf 0 ia⟩
def T:CT := .o
def f (n:Nat)(a:List (Int))(b:List (Int)):Option R:=fRun (X n) n T Tryz.f138 ia io (a,b,())
theorem e0 (n:Nat)(a:List (Int))(b:List (Int)):f n a b=some ((hide (eqS (yaT a) (yaT b))),()):=(yae _).trans (by kernel_rfl)
theorem ok (n:Nat):FnOk Tryz.prog 138 ia io (fRun (X n) n T Tryz.f138 ia io):=yaG mixed tabIs (yav) Tryz.func138 (by kernel_rfl) rfl
def en (n:Nat):Entry:=yaB 138 ia io (fRun (X n) n T Tryz.f138 ia io)
end ybn
namespace yby
abbrev ia:List Ai:=[.dat (.slice (.int .u8))]
abbrev io:List (Nat×Oi):=[(2,.dat (.int .u64)),(3,.dat (.int .i64)),(4,.dat (.int .i64))]
abbrev R:Type:=DOut ia io
def X (n:Nat):Ctx:=⟨⟨tab,[ydu.en n,ybn.en n],0,[]⟩,44,bnOf 0 ia⟩
abbrev g1:List Si:=[.dat 0 (.slice (.int .u8)),.dat 2 (.int .u64),.dat 7 (.slice (.int .u8)),.dat 8 (.int .i64),.dat 9 (.int .i64)]
abbrev g2:List Si:=[.dat 0 (.slice (.int .u8)),.dat 2 (.int .u64),.dat 5 (.int .i64),.dat 6 (.int .u8),.dat 7 (.slice (.int .u8)),.dat 8 (.int .i64),.dat 9 (.int .i64),.dat 19 .bool]
abbrev g3:List Si:=[.dat 0 (.slice (.int .u8)),.dat 2 (.int .u64),.dat 5 (.int .i64),.dat 6 (.int .u8),.dat 7 (.slice (.int .u8)),.dat 8 (.int .i64),.dat 9 (.int .i64)]
abbrev g4:List Si:=[]
def T:CT:=(.s .o (.s (.s .o (.b (.l g1 (.s .o (.s .o (.s (.b (.s .o (.s (.s .o (.r g2 .o)) (.r g3 .o)))) .o)))))) (.r g4 .o)))
def J1 (n:Nat)(m:Nat):(List (Int))×Int×(List (Int))×Int×Int×Unit→Option R:=jL (X n) n T (yaM Tryz.f238) (endK ia io) g1 [1,0,1,0] [] m
def J2 (n m1:Nat):(List (Int))×Int×Int×Int×(List (Int))×Int×Int×Bool×Unit→Option R:=jR (X n) n T (yaM Tryz.f238) (endK ia io) g2 [1,0,1,0,0,1,1,0,0,1,0,1] [m1]
def J3 (n m1:Nat):(List (Int))×Int×Int×Int×(List (Int))×Int×Int×Unit→Option R:=jR (X n) n T (yaM Tryz.f238) (endK ia io) g3 [1,0,1,0,0,1,1,0,0,1,1] [m1]
def J4 (n:Nat):Unit→Option R:=jR (X n) n T (yaM Tryz.f238) (endK ia io) g4 [1,1] []
def f (n:Nat)(b:List (Int)):Option R:=fRun (X n) n T Tryz.f238 ia io (b,())
theorem e0 (n:Nat)(b:List (Int)):f n b=J1 n n (b,0,b,((b.length:Nat):Int),0,()):=(yae _).trans (by kernel_rfl)
theorem e1 (n m:Nat)(b:List (Int))(n_:Int)(t7:List (Int))(t8:Int)(t9:Int):J1 n (m+1) (b,n_,t7,t8,t9,())=bIf ((hide (decide (t9<t8)))) (gIf (0≤t9∧t9<((t7.length:Nat):Int)) (bIf ((hide (t9==(9:Int)))) (J2 n m (b,n_,t9,(List.getD t7 t9.toNat 0),t7,t8,t9,(hide (decide ((List.getD t7 t9.toNat 0)>(1:Int)))),())) (J2 n m (b,n_,t9,(List.getD t7 t9.toNat 0),t7,t8,t9,false,())))) (J4 n (())):=(yae _).trans (by kernel_rfl)
theorem e2 (n m1:Nat)(b:List (Int))(n_:Int)(i:Int)(x_:Int)(t7:List (Int))(t8:Int)(t9:Int)(t19:Bool):J2 n m1 (b,n_,i,x_,t7,t8,t9,t19,())=bIf (t19) (some (0,0,2,())) (J3 n m1 (b,n_,i,x_,t7,t8,t9,())):=(yae _).trans (by kernel_rfl)
theorem e3 (n m1:Nat)(b:List (Int))(n_:Int)(i:Int)(x_:Int)(t7:List (Int))(t8:Int)(t9:Int):J3 n m1 (b,n_,i,x_,t7,t8,t9,())=gNo ((IntKind.u64.wrap ((7:Int)*(IntKind.u64.wrap i)))<0) (gNo ((7:Int)<0) (bIf ((hide ((shrI .u8 x_ 7) != (0:Int)))) (J1 n m1 (b,(bitI .or .u64 n_ (shlI .u64 (IntKind.u64.wrap (bitI .andNot .u8 x_ 128)) (IntKind.u64.wrap ((7:Int)*(IntKind.u64.wrap i))))),t7,t8,(IntKind.i64.wrap (t9+(1:Int))),())) (bnd (ydu.f n (bitI .or .u64 n_ (shlI .u64 (IntKind.u64.wrap (bitI .andNot .u8 x_ 128)) (IntKind.u64.wrap ((7:Int)*(IntKind.u64.wrap i)))))) λu1=>gIf (0≤(IntKind.i64.wrap (i+(1:Int)))∧(IntKind.i64.wrap (i+(1:Int)))≤((b.length:Nat):Int)) (gIf (0≤(0:Int)∧(0:Int)≤(IntKind.i64.wrap (i+(1:Int)))) (bnd (ybn.f n u1.1 ((b.take ((IntKind.i64.wrap (i+(1:Int))).toNat)).drop 0)) λu2=>bIf ((!u2.1)) (some (0,0,2,())) (some ((bitI .or .u64 n_ (shlI .u64 (IntKind.u64.wrap (bitI .andNot .u8 x_ 128)) (IntKind.u64.wrap ((7:Int)*(IntKind.u64.wrap i))))),(IntKind.i64.wrap (i+(1:Int))),0,()))))))):=(yae _).trans (by kernel_rfl)
theorem e4 (n:Nat):J4 n (())=some (0,0,3,()):=(yae _).trans (by kernel_rfl)
theorem ok (n:Nat):FnOk Tryz.prog 238 ia io (fRun (X n) n T Tryz.f238 ia io):=yaG mixed tabIs (yad (yac (ydu.ok n)) (yad (yac (ybn.ok n)) (yav))) Tryz.func238 (by kernel_rfl) rfl
def en (n:Nat):Entry:=yaB 238 ia io (fRun (X n) n T Tryz.f238 ia io)
end yby
namespace yfy
abbrev ia:List Ai:=[.dat (.int .u64)]
abbrev io:List (Nat×Oi):=[(2,.dat (.int .i64))]
abbrev R:Type:=DOut ia io
def X (n:Nat):Ctx:=⟨⟨tab,[],0,[]⟩,11,bnOf 0 ia⟩
def T:CT := .o
def f (n:Nat)(u:Int):Option R:=fRun (X n) n T Tryz.f254 ia io (u,())
theorem e0 (n:Nat)(u:Int):f n u=gNo ((1:Int)<0) (some ((bitI .xor .i64 (IntKind.i64.wrap (shrI .u64 u 1)) (IntKind.i64.wrap (0-(IntKind.i64.wrap (bitI .and .u64 u 1))))),())):=(yae _).trans (by kernel_rfl)
theorem ok (n:Nat):FnOk Tryz.prog 254 ia io (fRun (X n) n T Tryz.f254 ia io):=yaG mixed tabIs (yav) Tryz.func254 (by kernel_rfl) rfl
def en (n:Nat):Entry:=yaB 254 ia io (fRun (X n) n T Tryz.f254 ia io)
end yfy
namespace ybi
abbrev ia:List Ai:=[.ptr (.p (.r 0 (.int .u8)) (.d .unit)),.dat (.slice (.int .u8))]
abbrev io:List (Nat×Oi):=[(4,.arg 0 500000 (.d ybK))]
abbrev R:Type:=DOut ia io
def X (n:Nat):Ctx:=⟨⟨tab,[],0,[]⟩,17,bnOf 0 ia⟩
def T:CT := .o
def f (n:Nat)(w_:yaP)(b:List (Int)):Option R:=fRun (X n) n T Tryz.f117 ia io (w_,b,())
theorem e0 (n:Nat)(w_:yaP)(b:List (Int)):f n w_ b=bIf ((hide true)) (gIf ((w_.1.length+b.length)*1≤70368744177664) (some (((w_.1++b),w_.2),()))) (some (w_,())):=(yae _).trans (by kernel_rfl)
theorem ok (n:Nat):FnOk Tryz.prog 117 ia io (fRun (X n) n T Tryz.f117 ia io):=yaG mixed tabIs (yav) Tryz.func117 (by kernel_rfl) rfl
def en (n:Nat):Entry:=yaB 117 ia io (fRun (X n) n T Tryz.f117 ia io)
end ybi
namespace yao
abbrev ia:List Ai:=[.ptr (.p (.r 0 (.int .u8)) (.d .unit)),.dat (.int .u64)]
abbrev io:List (Nat×Oi):=[(4,.arg 0 500000 (.d ybK))]
abbrev R:Type:=DOut ia io
def X (n:Nat):Ctx:=⟨⟨tab,[ybi.en n,ydu.en n],0,[]⟩,9,bnOf 0 ia⟩
def T:CT := .o
def f (n:Nat)(w_:yaP)(n_:Int):Option R:=fRun (X n) n T Tryz.f58 ia io (w_,n_,())
theorem e0 (n:Nat)(w_:yaP)(n_:Int):f n w_ n_=bnd (ydu.f n n_) λu1=>bnd (ybi.f n w_ u1.1) λu2=>some (u2.1,()):=(yae _).trans (by kernel_rfl)
theorem ok (n:Nat):FnOk Tryz.prog 58 ia io (fRun (X n) n T Tryz.f58 ia io):=yaG mixed tabIs (yad (yac (ybi.ok n)) (yad (yac (ydu.ok n)) (yav))) Tryz.func58 (by kernel_rfl) rfl
def en (n:Nat):Entry:=yaB 58 ia io (fRun (X n) n T Tryz.f58 ia io)
end yao
namespace ycG
abbrev ia:List Ai:=[.fn (.str 1) [(.p (.r 0 (.int .u8)) (.d .unit))],.dat yaA]
abbrev io:List (Nat×Oi):=[]
abbrev R:Type:=DOut ia io
def X (n:Nat):Ctx:=⟨⟨tab,[yao.en n],0,[]⟩,14,bnOf 0 ia⟩
def T:CT := .o
def f (n:Nat)(wc0:yaP)(d:yaL):Option R:=fRun (X n) n T Tryz.f134 ia io (wc0,d,())
theorem e0 (n:Nat)(wc0:yaP)(d:yaL):f n wc0 d=bnd (yao.f n wc0 (IntKind.u64.wrap d.1)) λu1=>bnd (yao.f n u1.1 (IntKind.u64.wrap d.2.1)) λu2=>some (u2.1,()):=(yae _).trans (by kernel_rfl)
theorem ok (n:Nat):FnOk Tryz.prog 134 ia io (fRun (X n) n T Tryz.f134 ia io):=yaG mixed tabIs (yad (yac (yao.ok n)) (yav)) Tryz.func134 (by kernel_rfl) rfl
def en (n:Nat):Entry:=yaB 134 ia io (fRun (X n) n T Tryz.f134 ia io)
end ycG
namespace yaV
abbrev ia:List Ai:=[.ptr (.p (.r 0 (.int .u8)) (.d .unit)),.dat .bool]
abbrev io:List (Nat×Oi):=[(4,.arg 0 500000 (.d ybK))]
abbrev R:Type:=DOut ia io
def X (n:Nat):Ctx:=⟨⟨tab,[ybi.en n],0,[]⟩,12,bnOf 0 ia⟩
def T:CT := .o
def f (n:Nat)(w_:yaP)(b:Bool):Option R:=fRun (X n) n T Tryz.f61 ia io (w_,b,())
theorem e0 (n:Nat)(w_:yaP)(b:Bool):f n w_ b=bIf (b) (bnd (ybi.f n w_ ([1]:List (Int))) λu1=>some (u1.1,())) (bnd (ybi.f n w_ ([0]:List (Int))) λu2=>some (u2.1,())):=(yae _).trans (by kernel_rfl)
theorem ok (n:Nat):FnOk Tryz.prog 61 ia io (fRun (X n) n T Tryz.f61 ia io):=yaG mixed tabIs (yad (yac (ybi.ok n)) (yav)) Tryz.func61 (by kernel_rfl) rfl
def en (n:Nat):Entry:=yaB 61 ia io (fRun (X n) n T Tryz.f61 ia io)
end yaV
namespace yay
abbrev ia:List Ai:=[.ptr (.p (.r 0 (.int .u8)) (.d .unit)),.dat .str]
abbrev io:List (Nat×Oi):=[(4,.arg 0 500000 (.d ybK))]
abbrev R:Type:=DOut ia io
def X (n:Nat):Ctx:=⟨⟨tab,[yao.en n,ybi.en n],0,[]⟩,13,bnOf 0 ia⟩
def T:CT := .o
def f (n:Nat)(w_:yaP)(s_:ByteArray):Option R:=fRun (X n) n T Tryz.f60 ia io (w_,s_,())
theorem e0 (n:Nat)(w_:yaP)(s_:ByteArray):f n w_ s_=bnd (yao.f n w_ (IntKind.u64.wrap (s_.size:Int))) λu1=>bnd (ybi.f n u1.1 (ybN s_)) λu2=>some (u2.1,()):=(yae _).trans (by kernel_rfl)
theorem ok (n:Nat):FnOk Tryz.prog 60 ia io (fRun (X n) n T Tryz.f60 ia io):=yaG mixed tabIs (yad (yac (yao.ok n)) (yad (yac (ybi.ok n)) (yav))) Tryz.func60 (by kernel_rfl) rfl
def en (n:Nat):Entry:=yaB 60 ia io (fRun (X n) n T Tryz.f60 ia io)
end yay
namespace yb1
abbrev ia:List Ai:=[.fn (.str 1) [(.p (.r 0 (.int .u8)) (.d .unit))],.dat (.slice yaD)]
abbrev io:List (Nat×Oi):=[]
abbrev R:Type:=DOut ia io
def X (n:Nat):Ctx:=⟨⟨tab,[yao.en n,yay.en n,yaV.en n],0,[]⟩,33,bnOf 0 ia⟩
abbrev g1:List Si:=[.ref 2 2 ydn,.dat 12 (.slice yaD),.dat 13 (.int .i64),.dat 14 (.int .i64),.box 2 (.p (.al 500000 ybK) (.d .unit)),.box 500000 (.p (.r 100000500000000 (.int .u8)) (.d .unit))]
def T:CT:=(.s .o (.s .o (.s .o (.b (.l g1 .o)))))
def J1 (n:Nat)(m:Nat):(List (yat))×Int×Int×yc0×yaP×Unit→Option R:=jL (X n) n T (yaM Tryz.f136) (endK ia io) g1 [1,1,1,0] [] m
def f (n:Nat)(wc0:yaP)(list:List (yat)):Option R:=fRun (X n) n T Tryz.f136 ia io (wc0,list,())
theorem e0 (n:Nat)(wc0:yaP)(list:List (yat)):f n wc0 list=bnd (yao.f n wc0 (IntKind.u64.wrap ((list.length:Nat):Int))) λu1=>J1 n n (list,((list.length:Nat):Int),0,((),()),u1.1,()):=(yae _).trans (by kernel_rfl)
theorem e1 (n m:Nat)(t12:List (yat))(t13:Int)(t14:Int)(w_:yc0)(b500000:yaP):J1 n (m+1) (t12,t13,t14,w_,b500000,())=bIf ((hide (decide (t14<t13)))) (gIf (0≤t14∧t14<((t12.length:Nat):Int)) (bnd (yaV.f n b500000 ((List.getD t12 t14.toNat (Va.dflt yaD)).1)) λu1=>bnd (yay.f n u1.1 (((List.getD t12 t14.toNat (Va.dflt yaD)).2).1)) λu2=>bnd (yay.f n u2.1 ((((List.getD t12 t14.toNat (Va.dflt yaD)).2).2).1)) λu3=>bnd (yay.f n u3.1 (((((List.getD t12 t14.toNat (Va.dflt yaD)).2).2).2).1)) λu4=>J1 n m (t12,t13,(IntKind.i64.wrap (t14+(1:Int))),((),w_.2),u4.1,()))) (some (b500000,())):=(yae _).trans (by kernel_rfl)
theorem ok (n:Nat):FnOk Tryz.prog 136 ia io (fRun (X n) n T Tryz.f136 ia io):=yaG mixed tabIs (yad (yac (yao.ok n)) (yad (yac (yay.ok n)) (yad (yac (yaV.ok n)) (yav)))) Tryz.func136 (by kernel_rfl) rfl
def en (n:Nat):Entry:=yaB 136 ia io (fRun (X n) n T Tryz.f136 ia io)
end yb1
namespace ybL
abbrev ia:List Ai:=[.ptr (.p (.r 0 (.int .u8)) (.d .unit)),.dat (.int .i64)]
abbrev io:List (Nat×Oi):=[(4,.arg 0 500000 (.d ybK))]
abbrev R:Type:=DOut ia io
def X (n:Nat):Ctx:=⟨⟨tab,[yao.en n,yfC.en n],0,[]⟩,9,bnOf 0 ia⟩
def T:CT := .o
def f (n:Nat)(w_:yaP)(n_:Int):Option R:=fRun (X n) n T Tryz.f121 ia io (w_,n_,())
theorem e0 (n:Nat)(w_:yaP)(n_:Int):f n w_ n_=bnd (yfC.f n n_) λu1=>bnd (yao.f n w_ u1.1) λu2=>some (u2.1,()):=(yae _).trans (by kernel_rfl)
theorem ok (n:Nat):FnOk Tryz.prog 121 ia io (fRun (X n) n T Tryz.f121 ia io):=yaG mixed tabIs (yad (yac (yao.ok n)) (yad (yac (yfC.ok n)) (yav))) Tryz.func121 (by kernel_rfl) rfl
def en (n:Nat):Entry:=yaB 121 ia io (fRun (X n) n T Tryz.f121 ia io)
end ybL
namespace ybJ
abbrev ia:List Ai:=[.fn (.str 1) [(.p (.r 0 (.int .u8)) (.d .unit))],.dat yaO]
abbrev io:List (Nat×Oi):=[]
abbrev R:Type:=DOut ia io
def X (n:Nat):Ctx:=⟨⟨tab,[yao.en n,yaV.en n,ybL.en n],0,[]⟩,16,bnOf 0 ia⟩
def T:CT := .o
def f (n:Nat)(wc0:yaP)(l:yaZ):Option R:=fRun (X n) n T Tryz.f123 ia io (wc0,l,())
theorem e0 (n:Nat)(wc0:yaP)(l:yaZ):f n wc0 l=bnd (yao.f n wc0 (IntKind.u64.wrap l.1)) λu1=>bnd (ybL.f n u1.1 l.2.1) λu2=>bnd (yaV.f n u2.1 l.2.2.1) λu3=>some (u3.1,()):=(yae _).trans (by kernel_rfl)
theorem ok (n:Nat):FnOk Tryz.prog 123 ia io (fRun (X n) n T Tryz.f123 ia io):=yaG mixed tabIs (yad (yac (yao.ok n)) (yad (yac (yaV.ok n)) (yad (yac (ybL.ok n)) (yav)))) Tryz.func123 (by kernel_rfl) rfl
def en (n:Nat):Entry:=yaB 123 ia io (fRun (X n) n T Tryz.f123 ia io)
end ybJ
namespace ybc
abbrev ia:List Ai:=[.fn (.str 1) [(.p (.r 0 (.int .u8)) (.d .unit))],.dat (.slice yaw)]
abbrev io:List (Nat×Oi):=[]
abbrev R:Type:=DOut ia io
def X (n:Nat):Ctx:=⟨⟨tab,[yao.en n,yay.en n],0,[]⟩,27,bnOf 0 ia⟩
abbrev g1:List Si:=[.ref 2 2 ydn,.dat 12 (.slice yaw),.dat 13 (.int .i64),.dat 14 (.int .i64),.box 2 (.p (.al 500000 ybK) (.d .unit)),.box 500000 (.p (.r 100000500000000 (.int .u8)) (.d .unit))]
def T:CT:=(.s .o (.s .o (.s .o (.b (.l g1 .o)))))
def J1 (n:Nat)(m:Nat):(List (yaz))×Int×Int×yc0×yaP×Unit→Option R:=jL (X n) n T (yaM Tryz.f124) (endK ia io) g1 [1,1,1,0] [] m
def f (n:Nat)(wc0:yaP)(list:List (yaz)):Option R:=fRun (X n) n T Tryz.f124 ia io (wc0,list,())
theorem e0 (n:Nat)(wc0:yaP)(list:List (yaz)):f n wc0 list=bnd (yao.f n wc0 (IntKind.u64.wrap ((list.length:Nat):Int))) λu1=>J1 n n (list,((list.length:Nat):Int),0,((),()),u1.1,()):=(yae _).trans (by kernel_rfl)
theorem e1 (n m:Nat)(t12:List (yaz))(t13:Int)(t14:Int)(w_:yc0)(b500000:yaP):J1 n (m+1) (t12,t13,t14,w_,b500000,())=bIf ((hide (decide (t14<t13)))) (gIf (0≤t14∧t14<((t12.length:Nat):Int)) (bnd (yay.f n b500000 ((List.getD t12 t14.toNat (Va.dflt yaw)).1)) λu1=>bnd (yay.f n u1.1 (((List.getD t12 t14.toNat (Va.dflt yaw)).2).1)) λu2=>J1 n m (t12,t13,(IntKind.i64.wrap (t14+(1:Int))),((),w_.2),u2.1,()))) (some (b500000,())):=(yae _).trans (by kernel_rfl)
theorem ok (n:Nat):FnOk Tryz.prog 124 ia io (fRun (X n) n T Tryz.f124 ia io):=yaG mixed tabIs (yad (yac (yao.ok n)) (yad (yac (yay.ok n)) (yav))) Tryz.func124 (by kernel_rfl) rfl
def en (n:Nat):Entry:=yaB 124 ia io (fRun (X n) n T Tryz.f124 ia io)
end ybc
namespace yb7
abbrev ia:List Ai:=[.fn (.str 1) [(.p (.r 0 (.int .u8)) (.d .unit))],.dat (.slice yaC)]
abbrev io:List (Nat×Oi):=[]
abbrev R:Type:=DOut ia io
def X (n:Nat):Ctx:=⟨⟨tab,[yao.en n,yay.en n,yaV.en n,ybc.en n],0,[]⟩,41,bnOf 0 ia⟩
abbrev g1:List Si:=[.ref 2 2 ydn,.dat 12 (.slice yaC),.dat 13 (.int .i64),.dat 14 (.int .i64),.box 2 (.p (.al 500000 ybK) (.d .unit)),.box 500000 (.p (.r 100000500000000 (.int .u8)) (.d .unit))]
def T:CT:=(.s .o (.s .o (.s .o (.b (.l g1 .o)))))
def J1 (n:Nat)(m:Nat):(List (yau))×Int×Int×yc0×yaP×Unit→Option R:=jL (X n) n T (yaM Tryz.f135) (endK ia io) g1 [1,1,1,0] [] m
def f (n:Nat)(wc0:yaP)(list:List (yau)):Option R:=fRun (X n) n T Tryz.f135 ia io (wc0,list,())
theorem e0 (n:Nat)(wc0:yaP)(list:List (yau)):f n wc0 list=bnd (yao.f n wc0 (IntKind.u64.wrap ((list.length:Nat):Int))) λu1=>J1 n n (list,((list.length:Nat):Int),0,((),()),u1.1,()):=(yae _).trans (by kernel_rfl)
theorem e1 (n m:Nat)(t12:List (yau))(t13:Int)(t14:Int)(w_:yc0)(b500000:yaP):J1 n (m+1) (t12,t13,t14,w_,b500000,())=bIf ((hide (decide (t14<t13)))) (gIf (0≤t14∧t14<((t12.length:Nat):Int)) (bnd (yay.f n b500000 ((List.getD t12 t14.toNat (Va.dflt yaC)).1)) λu1=>bnd (ybc.f n u1.1 (((List.getD t12 t14.toNat (Va.dflt yaC)).2).1)) λu2=>bnd (yao.f n u2.1 (IntKind.u64.wrap ((((List.getD t12 t14.toNat (Va.dflt yaC)).2).2).1))) λu3=>bnd (yao.f n u3.1 (IntKind.u64.wrap (((((List.getD t12 t14.toNat (Va.dflt yaC)).2).2).2).1))) λu4=>bnd (yaV.f n u4.1 ((((((List.getD t12 t14.toNat (Va.dflt yaC)).2).2).2).2).1)) λu5=>J1 n m (t12,t13,(IntKind.i64.wrap (t14+(1:Int))),((),w_.2),u5.1,()))) (some (b500000,())):=(yae _).trans (by kernel_rfl)
theorem ok (n:Nat):FnOk Tryz.prog 135 ia io (fRun (X n) n T Tryz.f135 ia io):=yaG mixed tabIs (yad (yac (yao.ok n)) (yad (yac (yay.ok n)) (yad (yac (yaV.ok n)) (yad (yac (ybc.ok n)) (yav))))) Tryz.func135 (by kernel_rfl) rfl
def en (n:Nat):Entry:=yaB 135 ia io (fRun (X n) n T Tryz.f135 ia io)
end yb7
namespace yc3
abbrev ia:List Ai:=[.ptr (.p (.r 0 (.int .u8)) (.d .unit)),.dat (.arr 32 (.int .u8))]
abbrev io:List (Nat×Oi):=[(4,.arg 0 500000 (.d ybK))]
abbrev R:Type:=DOut ia io
def X (n:Nat):Ctx:=⟨⟨tab,[ybi.en n],0,[6]⟩,8,bnOf 0 ia⟩
def T:CT := .o
def f (n:Nat)(w_:yaP)(d:List (Int)):Option R:=fRun (X n) n T Tryz.f122 ia io (w_,d,())
theorem e0 (n:Nat)(w_:yaP)(d:List (Int)):f n w_ d=bnd (ybi.f n w_ d) λu1=>some (u1.1,()):=(yae _).trans (by kernel_rfl)
theorem ok (n:Nat):FnOk Tryz.prog 122 ia io (fRun (X n) n T Tryz.f122 ia io):=yaG mixed tabIs (yad (yac (ybi.ok n)) (yav)) Tryz.func122 (by kernel_rfl) rfl
def en (n:Nat):Entry:=yaB 122 ia io (fRun (X n) n T Tryz.f122 ia io)
end yc3
namespace ybE
abbrev ia:List Ai:=[.fn (.str 1) [(.p (.r 0 (.int .u8)) (.d .unit))],.dat yco]
abbrev io:List (Nat×Oi):=[]
abbrev R:Type:=DOut ia io
def X (n:Nat):Ctx:=⟨⟨tab,[yao.en n,yaV.en n,ybL.en n,yc3.en n,ybJ.en n,ybc.en n],0,[]⟩,37,bnOf 0 ia⟩
def T:CT := .o
def f (n:Nat)(wc0:yaP)(v_:ybD):Option R:=fRun (X n) n T Tryz.f62 ia io (wc0,v_,())
theorem e0 (n:Nat)(wc0:yaP)(v_:ybD):f n wc0 v_=bnd (yao.f n wc0 v_.1) λu1=>bnd (yaV.f n u1.1 v_.2.1) λu2=>bnd (ybL.f n u2.1 v_.2.2.2.2.2.1) λu3=>bIf (v_.2.1) (some (u3.1,())) (bnd (yao.f n u3.1 (IntKind.u64.wrap v_.2.2.1)) λu4=>bnd (yao.f n u4.1 v_.2.2.2.1) λu5=>bnd (yc3.f n u5.1 v_.2.2.2.2.1) λu6=>bnd (ybJ.f n u6.1 v_.2.2.2.2.2.2.1) λu7=>bnd (ybc.f n u7.1 v_.2.2.2.2.2.2.2.1) λu8=>some (u8.1,())):=(yae _).trans (by kernel_rfl)
theorem ok (n:Nat):FnOk Tryz.prog 62 ia io (fRun (X n) n T Tryz.f62 ia io):=yaG mixed tabIs (yad (yac (yao.ok n)) (yad (yac (yaV.ok n)) (yad (yac (ybL.ok n)) (yad (yac (yc3.ok n)) (yad (yac (ybJ.ok n)) (yad (yac (ybc.ok n)) (yav))))))) Tryz.func62 (by kernel_rfl) rfl
def en (n:Nat):Entry:=yaB 62 ia io (fRun (X n) n T Tryz.f62 ia io)
end ybE
namespace ycc
abbrev ia:List Ai:=[.dat .bool]
abbrev io:List (Nat×Oi):=[(2,.dat .str)]
abbrev R:Type:=DOut ia io
def X (n:Nat):Ctx:=⟨⟨tab,[],0,[]⟩,4,bnOf 0 ia⟩
def T:CT := .o
def f (n:Nat)(b:Bool):Option R:=fRun (X n) n T Tryz.f35 ia io (b,())
theorem e0 (n:Nat)(b:Bool):f n b=bIf (b) (some ((⟨#[1]⟩:ByteArray),())) (some ((⟨#[0]⟩:ByteArray),())):=(yae _).trans (by kernel_rfl)
theorem ok (n:Nat):FnOk Tryz.prog 35 ia io (fRun (X n) n T Tryz.f35 ia io):=yaG mixed tabIs (yav) Tryz.func35 (by kernel_rfl) rfl
def en (n:Nat):Entry:=yaB 35 ia io (fRun (X n) n T Tryz.f35 ia io)
end ycc
namespace yd8
abbrev ia:List Ai:=[.dat (.int .i64)]
abbrev io:List (Nat×Oi):=[(2,.dat .str)]
abbrev R:Type:=DOut ia io
def X (n:Nat):Ctx:=⟨⟨tab,[ybz.en n,ye9.en n],0,[]⟩,6,bnOf 0 ia⟩
def T:CT := .o
def f (n:Nat)(n_:Int):Option R:=fRun (X n) n T Tryz.f69 ia io (n_,())
theorem e0 (n:Nat)(n_:Int):f n n_=bnd (ye9.f n n_) λu1=>bnd (ybz.f n u1.1) λu2=>some (u2.1,()):=(yae _).trans (by kernel_rfl)
theorem ok (n:Nat):FnOk Tryz.prog 69 ia io (fRun (X n) n T Tryz.f69 ia io):=yaG mixed tabIs (yad (yac (ybz.ok n)) (yad (yac (ye9.ok n)) (yav))) Tryz.func69 (by kernel_rfl) rfl
def en (n:Nat):Entry:=yaB 69 ia io (fRun (X n) n T Tryz.f69 ia io)
end yd8
namespace ybd
abbrev ia:List Ai:=[.dat .str]
abbrev io:List (Nat×Oi):=[(2,.dat .str)]
abbrev R:Type:=DOut ia io
def X (n:Nat):Ctx:=⟨⟨tab,[ybz.en n],0,[]⟩,9,bnOf 0 ia⟩
def T:CT := .o
def f (n:Nat)(s_:ByteArray):Option R:=fRun (X n) n T Tryz.f34 ia io (s_,())
theorem e0 (n:Nat)(s_:ByteArray):f n s_=bnd (ybz.f n (IntKind.u64.wrap (s_.size:Int))) λu1=>gIf (u1.1.size+s_.size≤4611686018427387904) (some ((u1.1++s_),())):=(yae _).trans (by kernel_rfl)
theorem ok (n:Nat):FnOk Tryz.prog 34 ia io (fRun (X n) n T Tryz.f34 ia io):=yaG mixed tabIs (yad (yac (ybz.ok n)) (yav)) Tryz.func34 (by kernel_rfl) rfl
def en (n:Nat):Entry:=yaB 34 ia io (fRun (X n) n T Tryz.f34 ia io)
end ybd
namespace ybV
abbrev ia:List Ai:=[.dat (.int .i64)]
abbrev io:List (Nat×Oi):=[(2,.dat .str)]
abbrev R:Type:=DOut ia io
def X (n:Nat):Ctx:=⟨⟨tab,[ybz.en n],0,[]⟩,6,bnOf 0 ia⟩
def T:CT := .o
def f (n:Nat)(n_:Int):Option R:=fRun (X n) n T Tryz.f70 ia io (n_,())
theorem e0 (n:Nat)(n_:Int):f n n_=bnd (ybz.f n (IntKind.u64.wrap n_)) λu1=>some (u1.1,()):=(yae _).trans (by kernel_rfl)
theorem ok (n:Nat):FnOk Tryz.prog 70 ia io (fRun (X n) n T Tryz.f70 ia io):=yaG mixed tabIs (yad (yac (ybz.ok n)) (yav)) Tryz.func70 (by kernel_rfl) rfl
def en (n:Nat):Entry:=yaB 70 ia io (fRun (X n) n T Tryz.f70 ia io)
end ybV
namespace ydj
abbrev ia:List Ai:=[.dat yaA]
abbrev io:List (Nat×Oi):=[(2,.dat .str)]
abbrev R:Type:=DOut ia io
def X (n:Nat):Ctx:=⟨⟨tab,[ybV.en n],0,[]⟩,10,bnOf 0 ia⟩
def T:CT := .o
def f (n:Nat)(d:yaL):Option R:=fRun (X n) n T Tryz.f92 ia io (d,())
theorem e0 (n:Nat)(d:yaL):f n d=bnd (ybV.f n d.1) λu1=>bnd (ybV.f n d.2.1) λu2=>gIf (u1.1.size+u2.1.size≤4611686018427387904) (some ((u1.1++u2.1),())):=(yae _).trans (by kernel_rfl)
theorem ok (n:Nat):FnOk Tryz.prog 92 ia io (fRun (X n) n T Tryz.f92 ia io):=yaG mixed tabIs (yad (yac (ybV.ok n)) (yav)) Tryz.func92 (by kernel_rfl) rfl
def en (n:Nat):Entry:=yaB 92 ia io (fRun (X n) n T Tryz.f92 ia io)
end ydj
namespace ycw
abbrev ia:List Ai:=[.dat (.slice yaD)]
abbrev io:List (Nat×Oi):=[(2,.dat .str)]
abbrev R:Type:=DOut ia io
def X (n:Nat):Ctx:=⟨⟨tab,[ybd.en n,ycc.en n,ybV.en n],0,[]⟩,44,bnOf 0 ia⟩
abbrev g1:List Si:=[.dat 0 (.slice yaD),.dat 3 .str,.dat 4 (.int .i64)]
abbrev g2:List Si:=[.dat 3 .str]
def T:CT:=(.s .o (.s .o (.s (.s .o (.b (.l g1 .o))) (.r g2 .o))))
def J1 (n:Nat)(m:Nat):(List (yat))×ByteArray×Int×Unit→Option R:=jL (X n) n T (yaM Tryz.f94) (endK ia io) g1 [1,1,0,1,0] [] m
def J2 (n:Nat):ByteArray×Unit→Option R:=jR (X n) n T (yaM Tryz.f94) (endK ia io) g2 [1,1,1] []
def f (n:Nat)(l:List (yat)):Option R:=fRun (X n) n T Tryz.f94 ia io (l,())
theorem e0 (n:Nat)(l:List (yat)):f n l=bnd (ybV.f n ((l.length:Nat):Int)) λu1=>J1 n n (l,u1.1,0,()):=(yae _).trans (by kernel_rfl)
theorem e1 (n m:Nat)(l:List (yat))(s_:ByteArray)(i:Int):J1 n (m+1) (l,s_,i,())=bIf ((hide (decide (i<((l.length:Nat):Int))))) (gIf (0≤i∧i<((l.length:Nat):Int)) (bnd (ycc.f n ((List.getD l i.toNat (Va.dflt yaD)).1)) λu1=>gIf (0≤i∧i<((l.length:Nat):Int)) (bnd (ybd.f n (((List.getD l i.toNat (Va.dflt yaD)).2).1)) λu2=>gIf (u1.1.size+u2.1.size≤4611686018427387904) (gIf (0≤i∧i<((l.length:Nat):Int)) (bnd (ybd.f n ((((List.getD l i.toNat (Va.dflt yaD)).2).2).1)) λu3=>gIf ((u1.1++u2.1).size+u3.1.size≤4611686018427387904) (gIf (0≤i∧i<((l.length:Nat):Int)) (bnd (ybd.f n (((((List.getD l i.toNat (Va.dflt yaD)).2).2).2).1)) λu4=>gIf (((u1.1++u2.1)++u3.1).size+u4.1.size≤4611686018427387904) (gIf (s_.size+(((u1.1++u2.1)++u3.1)++u4.1).size≤4611686018427387904) (J1 n m (l,(s_++(((u1.1++u2.1)++u3.1)++u4.1)),(IntKind.i64.wrap (i+(1:Int))),())))))))))) (J2 n (s_,())):=(yae _).trans (by kernel_rfl)
theorem e2 (n:Nat)(s_:ByteArray):J2 n (s_,())=some (s_,()):=(yae _).trans (by kernel_rfl)
theorem ok (n:Nat):FnOk Tryz.prog 94 ia io (fRun (X n) n T Tryz.f94 ia io):=yaG mixed tabIs (yad (yac (ybd.ok n)) (yad (yac (ycc.ok n)) (yad (yac (ybV.ok n)) (yav)))) Tryz.func94 (by kernel_rfl) rfl
def en (n:Nat):Entry:=yaB 94 ia io (fRun (X n) n T Tryz.f94 ia io)
end ycw
namespace ydk
abbrev ia:List Ai:=[.dat yaO]
abbrev io:List (Nat×Oi):=[(2,.dat .str)]
abbrev R:Type:=DOut ia io
def X (n:Nat):Ctx:=⟨⟨tab,[ycc.en n,yd8.en n,ybV.en n],0,[]⟩,14,bnOf 0 ia⟩
def T:CT := .o
def f (n:Nat)(l:yaZ):Option R:=fRun (X n) n T Tryz.f72 ia io (l,())
theorem e0 (n:Nat)(l:yaZ):f n l=bnd (ybV.f n l.1) λu1=>bnd (yd8.f n l.2.1) λu2=>gIf (u1.1.size+u2.1.size≤4611686018427387904) (bnd (ycc.f n l.2.2.1) λu3=>gIf ((u1.1++u2.1).size+u3.1.size≤4611686018427387904) (some (((u1.1++u2.1)++u3.1),()))):=(yae _).trans (by kernel_rfl)
theorem ok (n:Nat):FnOk Tryz.prog 72 ia io (fRun (X n) n T Tryz.f72 ia io):=yaG mixed tabIs (yad (yac (ycc.ok n)) (yad (yac (yd8.ok n)) (yad (yac (ybV.ok n)) (yav)))) Tryz.func72 (by kernel_rfl) rfl
def en (n:Nat):Entry:=yaB 72 ia io (fRun (X n) n T Tryz.f72 ia io)
end ydk
namespace ybS
abbrev ia:List Ai:=[.dat (.slice yaw)]
abbrev io:List (Nat×Oi):=[(2,.dat .str)]
abbrev R:Type:=DOut ia io
def X (n:Nat):Ctx:=⟨⟨tab,[ybd.en n,ybV.en n],0,[]⟩,30,bnOf 0 ia⟩
abbrev g1:List Si:=[.dat 0 (.slice yaw),.dat 3 .str,.dat 4 (.int .i64)]
abbrev g2:List Si:=[.dat 3 .str]
def T:CT:=(.s .o (.s .o (.s (.s .o (.b (.l g1 .o))) (.r g2 .o))))
def J1 (n:Nat)(m:Nat):(List (yaz))×ByteArray×Int×Unit→Option R:=jL (X n) n T (yaM Tryz.f73) (endK ia io) g1 [1,1,0,1,0] [] m
def J2 (n:Nat):ByteArray×Unit→Option R:=jR (X n) n T (yaM Tryz.f73) (endK ia io) g2 [1,1,1] []
def f (n:Nat)(l:List (yaz)):Option R:=fRun (X n) n T Tryz.f73 ia io (l,())
theorem e0 (n:Nat)(l:List (yaz)):f n l=bnd (ybV.f n ((l.length:Nat):Int)) λu1=>J1 n n (l,u1.1,0,()):=(yae _).trans (by kernel_rfl)
theorem e1 (n m:Nat)(l:List (yaz))(s_:ByteArray)(i:Int):J1 n (m+1) (l,s_,i,())=bIf ((hide (decide (i<((l.length:Nat):Int))))) (gIf (0≤i∧i<((l.length:Nat):Int)) (bnd (ybd.f n ((List.getD l i.toNat (Va.dflt yaw)).1)) λu1=>gIf (0≤i∧i<((l.length:Nat):Int)) (bnd (ybd.f n (((List.getD l i.toNat (Va.dflt yaw)).2).1)) λu2=>gIf (u1.1.size+u2.1.size≤4611686018427387904) (gIf (s_.size+(u1.1++u2.1).size≤4611686018427387904) (J1 n m (l,(s_++(u1.1++u2.1)),(IntKind.i64.wrap (i+(1:Int))),())))))) (J2 n (s_,())):=(yae _).trans (by kernel_rfl)
theorem e2 (n:Nat)(s_:ByteArray):J2 n (s_,())=some (s_,()):=(yae _).trans (by kernel_rfl)
theorem ok (n:Nat):FnOk Tryz.prog 73 ia io (fRun (X n) n T Tryz.f73 ia io):=yaG mixed tabIs (yad (yac (ybd.ok n)) (yad (yac (ybV.ok n)) (yav))) Tryz.func73 (by kernel_rfl) rfl
def en (n:Nat):Entry:=yaB 73 ia io (fRun (X n) n T Tryz.f73 ia io)
end ybS
namespace ycK
abbrev ia:List Ai:=[.dat (.slice yaC)]
abbrev io:List (Nat×Oi):=[(2,.dat .str)]
abbrev R:Type:=DOut ia io
def X (n:Nat):Ctx:=⟨⟨tab,[ybd.en n,ycc.en n,ybV.en n,ybS.en n],0,[]⟩,51,bnOf 0 ia⟩
abbrev g1:List Si:=[.dat 0 (.slice yaC),.dat 3 .str,.dat 4 (.int .i64)]
abbrev g2:List Si:=[.dat 3 .str]
def T:CT:=(.s .o (.s .o (.s (.s .o (.b (.l g1 .o))) (.r g2 .o))))
def J1 (n:Nat)(m:Nat):(List (yau))×ByteArray×Int×Unit→Option R:=jL (X n) n T (yaM Tryz.f93) (endK ia io) g1 [1,1,0,1,0] [] m
def J2 (n:Nat):ByteArray×Unit→Option R:=jR (X n) n T (yaM Tryz.f93) (endK ia io) g2 [1,1,1] []
def f (n:Nat)(l:List (yau)):Option R:=fRun (X n) n T Tryz.f93 ia io (l,())
theorem e0 (n:Nat)(l:List (yau)):f n l=bnd (ybV.f n ((l.length:Nat):Int)) λu1=>J1 n n (l,u1.1,0,()):=(yae _).trans (by kernel_rfl)
theorem e1 (n m:Nat)(l:List (yau))(s_:ByteArray)(i:Int):J1 n (m+1) (l,s_,i,())=bIf ((hide (decide (i<((l.length:Nat):Int))))) (gIf (0≤i∧i<((l.length:Nat):Int)) (bnd (ybd.f n ((List.getD l i.toNat (Va.dflt yaC)).1)) λu1=>gIf (0≤i∧i<((l.length:Nat):Int)) (bnd (ybS.f n (((List.getD l i.toNat (Va.dflt yaC)).2).1)) λu2=>gIf (u1.1.size+u2.1.size≤4611686018427387904) (gIf (0≤i∧i<((l.length:Nat):Int)) (bnd (ybV.f n ((((List.getD l i.toNat (Va.dflt yaC)).2).2).1)) λu3=>gIf ((u1.1++u2.1).size+u3.1.size≤4611686018427387904) (gIf (0≤i∧i<((l.length:Nat):Int)) (bnd (ybV.f n (((((List.getD l i.toNat (Va.dflt yaC)).2).2).2).1)) λu4=>gIf (((u1.1++u2.1)++u3.1).size+u4.1.size≤4611686018427387904) (gIf (0≤i∧i<((l.length:Nat):Int)) (bnd (ycc.f n ((((((List.getD l i.toNat (Va.dflt yaC)).2).2).2).2).1)) λu5=>gIf ((((u1.1++u2.1)++u3.1)++u4.1).size+u5.1.size≤4611686018427387904) (gIf (s_.size+((((u1.1++u2.1)++u3.1)++u4.1)++u5.1).size≤4611686018427387904) (J1 n m (l,(s_++((((u1.1++u2.1)++u3.1)++u4.1)++u5.1)),(IntKind.i64.wrap (i+(1:Int))),())))))))))))) (J2 n (s_,())):=(yae _).trans (by kernel_rfl)
theorem e2 (n:Nat)(s_:ByteArray):J2 n (s_,())=some (s_,()):=(yae _).trans (by kernel_rfl)
theorem ok (n:Nat):FnOk Tryz.prog 93 ia io (fRun (X n) n T Tryz.f93 ia io):=yaG mixed tabIs (yad (yac (ybd.ok n)) (yad (yac (ycc.ok n)) (yad (yac (ybV.ok n)) (yad (yac (ybS.ok n)) (yav))))) Tryz.func93 (by kernel_rfl) rfl
def en (n:Nat):Entry:=yaB 93 ia io (fRun (X n) n T Tryz.f93 ia io)
end ycK
namespace ydh
abbrev ia:List Ai:=[.dat (.slice (.int .u8))]
abbrev io:List (Nat×Oi):=[(2,.dat (.slice (.int .u8)))]
abbrev R:Type:=DOut ia io
def X (n:Nat):Ctx:=⟨⟨tab,[],0,[]⟩,9,bnOf 0 ia⟩
def T:CT := .o
def f (n:Nat)(s_:List (Int)):Option R:=fRun (X n) n T Tryz.f119 ia io (s_,())
theorem e0 (n:Nat)(s_:List (Int)):f n s_=gIf (0≤((s_.length:Nat):Int)∧((s_.length:Nat):Int)≤((s_.length:Nat):Int)) (gIf (0≤(0:Int)∧(0:Int)≤((s_.length:Nat):Int)) (gIf (((s_.length:Nat):Int)≤((s_.length:Nat):Int)∧((s_.length:Nat):Int)≤((s_.length:Nat):Int)∧true=true) (some (((s_.take (((s_.length:Nat):Int).toNat)).drop 0),())))):=(yae _).trans (by kernel_rfl)
theorem ok (n:Nat):FnOk Tryz.prog 119 ia io (fRun (X n) n T Tryz.f119 ia io):=yaG mixed tabIs (yav) Tryz.func119 (by kernel_rfl) rfl
def en (n:Nat):Entry:=yaB 119 ia io (fRun (X n) n T Tryz.f119 ia io)
end ydh
namespace yb5
abbrev ia:List Ai:=[.dat (.slice (.int .u8))]
abbrev io:List (Nat×Oi):=[(2,.val (.r 0 (.int .u8)))]
abbrev R:Type:=DOut ia io
def X (n:Nat):Ctx:=⟨⟨tab,[],0,[]⟩,8,bnOf 0 ia⟩
def T:CT := .o
def f (n:Nat)(s_:List (Int)):Option R:=fRun (X n) n T Tryz.f120 ia io (s_,())
theorem e0 (n:Nat)(s_:List (Int)):f n s_=bIf ((s_.length==0)) (bothC (some ([],())) (gIf ((([]:List (Int)).length+s_.length)*1≤70368744177664) (some ((([]:List (Int))++s_),())))) (gIf ((([]:List (Int)).length+s_.length)*1≤70368744177664) (some ((([]:List (Int))++s_),()))):=(yae _).trans (by kernel_rfl)
theorem ok (n:Nat):FnOk Tryz.prog 120 ia io (fRun (X n) n T Tryz.f120 ia io):=yaG mixed tabIs (yav) Tryz.func120 (by kernel_rfl) rfl
def en (n:Nat):Entry:=yaB 120 ia io (fRun (X n) n T Tryz.f120 ia io)
end yb5
namespace ycg
abbrev ia:List Ai:=[.ptr (.p (.r 0 (.int .u8)) (.d .unit))]
abbrev io:List (Nat×Oi):=[(2,.dat (.slice (.int .u8)))]
abbrev R:Type:=DOut ia io
def X (n:Nat):Ctx:=⟨⟨tab,[ydh.en n,yb5.en n],0,[]⟩,11,bnOf 0 ia⟩
def T:CT := .o
def f (n:Nat)(w_:yaP):Option R:=fRun (X n) n T Tryz.f59 ia io (w_,())
theorem e0 (n:Nat)(w_:yaP):f n w_=bIf ((hide false)) (some ([],w_,())) (bnd (yb5.f n w_.1) λu1=>bnd (ydh.f n u1.1) λu2=>some (u2.1,w_,())):=(yae _).trans (by kernel_rfl)
theorem ok (n:Nat):FnOk Tryz.prog 59 ia io (fRun (X n) n T Tryz.f59 ia io):=yaG mixed tabIs (yad (yac (ydh.ok n)) (yad (yac (yb5.ok n)) (yav))) Tryz.func59 (by kernel_rfl) rfl
def en (n:Nat):Entry:=yaB 59 ia io (fRun (X n) n T Tryz.f59 ia io)
end ycg
namespace ya8
abbrev ia:List Ai:=[.ptr (.d yaK),.dat (.int .i64)]
abbrev io:List (Nat×Oi):=[]
abbrev R:Type:=DOut ia io
def X (n:Nat):Ctx:=⟨⟨tab,[],0,[]⟩,13,bnOf 0 ia⟩
def T:CT := .o
def f (n:Nat)(r:yam)(e_:Int):Option R:=fRun (X n) n T Tryz.f217 ia io (r,e_,())
theorem e0 (n:Nat)(r:yam)(e_:Int):f n r e_=bIf ((hide (r.2.1==(0:Int)))) (some ((r.1,(e_,r.2.2)),())) (some (r,())):=(yae _).trans (by kernel_rfl)
theorem ok (n:Nat):FnOk Tryz.prog 217 ia io (fRun (X n) n T Tryz.f217 ia io):=yaG mixed tabIs (yav) Tryz.func217 (by kernel_rfl) rfl
def en (n:Nat):Entry:=yaB 217 ia io (fRun (X n) n T Tryz.f217 ia io)
end ya8
namespace ybr
abbrev ia:List Ai:=[.ptr (.d yaK),.dat (.int .i64)]
abbrev io:List (Nat×Oi):=[(4,.dat (.slice (.int .u8)))]
abbrev R:Type:=DOut ia io
def X (n:Nat):Ctx:=⟨⟨tab,[ya8.en n],0,[]⟩,43,bnOf 0 ia⟩
abbrev g1:List Si:=[.ref 0 500000 yaK,.dat 1 (.int .i64),.box 500000 (.d yaK)]
def T:CT:=(.s .o (.s .o (.r g1 .o)))
def J1 (n:Nat):Int×yam×Unit→Option R:=jR (X n) n T (yaM Tryz.f206) (endK ia io) g1 [1,1] []
def f (n:Nat)(r:yam)(n_:Int):Option R:=fRun (X n) n T Tryz.f206 ia io (r,n_,())
theorem e0 (n:Nat)(r:yam)(n_:Int):f n r n_=bIf ((hide (r.2.1==(0:Int)))) (bIf ((hide (decide (n_>((r.1.length:Nat):Int))))) (bnd (ya8.f n r 3) λu1=>J1 n (n_,u1.1,())) (J1 n (n_,r,()))) (J1 n (n_,r,())):=(yae _).trans (by kernel_rfl)
theorem e1 (n:Nat)(n_:Int)(r:yam):J1 n (n_,r,())=bIf ((hide (r.2.1 != (0:Int)))) (some ([],r,())) (gIf (0≤n_∧n_≤((r.1.length:Nat):Int)) (gIf (0≤(0:Int)∧(0:Int)≤n_) (gIf (0≤((r.1.length:Nat):Int)∧((r.1.length:Nat):Int)≤((r.1.length:Nat):Int)) (gIf (0≤n_∧n_≤((r.1.length:Nat):Int)) (some (((r.1.take n_.toNat).drop 0),(((r.1.take ((((r.1.length:Nat):Int)).toNat)).drop n_.toNat),r.2),())))))):=(yae _).trans (by kernel_rfl)
theorem ok (n:Nat):FnOk Tryz.prog 206 ia io (fRun (X n) n T Tryz.f206 ia io):=yaG mixed tabIs (yad (yac (ya8.ok n)) (yav)) Tryz.func206 (by kernel_rfl) rfl
def en (n:Nat):Entry:=yaB 206 ia io (fRun (X n) n T Tryz.f206 ia io)
end ybr
namespace ya1
abbrev ia:List Ai:=[.ptr (.d yaK)]
abbrev io:List (Nat×Oi):=[(2,.dat (.int .u64))]
abbrev R:Type:=DOut ia io
def X (n:Nat):Ctx:=⟨⟨tab,[ybr.en n,ya8.en n,yby.en n],0,[]⟩,33,bnOf 0 ia⟩
abbrev g1:List Si:=[.ref 0 500000 yaK,.box 500000 (.d yaK)]
def T:CT:=(.s .o (.s .o (.r g1 .o)))
def J1 (n:Nat):yam×Unit→Option R:=jR (X n) n T (yaM Tryz.f215) (endK ia io) g1 [1,1] []
def f (n:Nat)(r:yam):Option R:=fRun (X n) n T Tryz.f215 ia io (r,())
theorem e0 (n:Nat)(r:yam):f n r=bIf ((hide false)) (some (0,r,())) (bIf ((hide (r.2.1 != (0:Int)))) (some (0,r,())) (J1 n (r,()))):=(yae _).trans (by kernel_rfl)
theorem e1 (n:Nat)(r:yam):J1 n (r,())=bnd (yby.f n r.1) λu1=>bIf ((hide (u1.2.2.1 != (0:Int)))) (bnd (ya8.f n r u1.2.2.1) λu2=>some (0,u2.1,())) (bnd (ybr.f n r u1.2.1) λu3=>some (u1.1,u3.2.1,())):=(yae _).trans (by kernel_rfl)
theorem ok (n:Nat):FnOk Tryz.prog 215 ia io (fRun (X n) n T Tryz.f215 ia io):=yaG mixed tabIs (yad (yac (ybr.ok n)) (yad (yac (ya8.ok n)) (yad (yac (yby.ok n)) (yav)))) Tryz.func215 (by kernel_rfl) rfl
def en (n:Nat):Entry:=yaB 215 ia io (fRun (X n) n T Tryz.f215 ia io)
end ya1
namespace yaR
abbrev ia:List Ai:=[.ptr (.d yaK),.dat (.int .i64)]
abbrev io:List (Nat×Oi):=[(4,.dat (.int .i64))]
abbrev R:Type:=DOut ia io
def X (n:Nat):Ctx:=⟨⟨tab,[ya1.en n,ya8.en n],0,[]⟩,29,bnOf 0 ia⟩
abbrev g1:List Si:=[.ref 0 500000 yaK,.dat 1 (.int .i64),.dat 5 (.int .u64),.box 500000 (.d yaK)]
abbrev g2:List Si:=[.ref 0 500000 yaK,.dat 5 (.int .u64),.dat 24 .bool,.box 500000 (.d yaK)]
abbrev g3:List Si:=[.dat 5 (.int .u64),.box 500000 (.d yaK)]
def T:CT:=(.s .o (.s .o (.s .o (.r g1 (.s (.s .o (.r g2 .o)) (.r g3 .o))))))
def J1 (n:Nat):Int×Int×yam×Unit→Option R:=jR (X n) n T (yaM Tryz.f205) (endK ia io) g1 [1,1,1] []
def J2 (n:Nat):Int×Bool×yam×Unit→Option R:=jR (X n) n T (yaM Tryz.f205) (endK ia io) g2 [1,1,1,0,1] []
def J3 (n:Nat):Int×yam×Unit→Option R:=jR (X n) n T (yaM Tryz.f205) (endK ia io) g3 [1,1,1,1] []
def f (n:Nat)(r:yam)(most:Int):Option R:=fRun (X n) n T Tryz.f205 ia io (r,most,())
theorem e0 (n:Nat)(r:yam)(most:Int):f n r most=bnd (ya1.f n r) λu1=>bIf ((hide false)) (some (0,u1.2.1,())) (bIf ((hide (u1.2.1.2.1 != (0:Int)))) (some (0,u1.2.1,())) (J1 n (most,u1.1,u1.2.1,()))):=(yae _).trans (by kernel_rfl)
theorem e1 (n:Nat)(most:Int)(n_:Int)(r:yam):J1 n (most,n_,r,())=bIf ((hide (decide (most<(0:Int))))) (J2 n (n_,true,r,())) (J2 n (n_,(hide (decide (n_>(IntKind.u64.wrap most)))),r,())):=(yae _).trans (by kernel_rfl)
theorem e2 (n:Nat)(n_:Int)(t24:Bool)(r:yam):J2 n (n_,t24,r,())=bIf (t24) (bnd (ya8.f n r 17) λu1=>some (0,u1.1,())) (J3 n (n_,r,())):=(yae _).trans (by kernel_rfl)
theorem e3 (n:Nat)(n_:Int)(b500000:yam):J3 n (n_,b500000,())=some ((IntKind.i64.wrap n_),b500000,()):=(yae _).trans (by kernel_rfl)
theorem ok (n:Nat):FnOk Tryz.prog 205 ia io (fRun (X n) n T Tryz.f205 ia io):=yaG mixed tabIs (yad (yac (ya1.ok n)) (yad (yac (ya8.ok n)) (yav))) Tryz.func205 (by kernel_rfl) rfl
def en (n:Nat):Entry:=yaB 205 ia io (fRun (X n) n T Tryz.f205 ia io)
end yaR
namespace yaQ
abbrev ia:List Ai:=[.fn (.str 1) [(.d yaK)]]
abbrev io:List (Nat×Oi):=[(2,.dat (.int .i64))]
abbrev R:Type:=DOut ia io
def X (n:Nat):Ctx:=⟨⟨tab,[yaR.en n],0,[]⟩,6,bnOf 0 ia⟩
def T:CT := .o
def f (n:Nat)(rc0:yam):Option R:=fRun (X n) n T Tryz.f154 ia io (rc0,())
theorem e0 (n:Nat)(rc0:yam):f n rc0=bnd (yaR.f n rc0 1099511627776) λu1=>some (u1.1,u1.2.1,()):=(yae _).trans (by kernel_rfl)
theorem ok (n:Nat):FnOk Tryz.prog 154 ia io (fRun (X n) n T Tryz.f154 ia io):=yaG mixed tabIs (yad (yac (yaR.ok n)) (yav)) Tryz.func154 (by kernel_rfl) rfl
def en (n:Nat):Entry:=yaB 154 ia io (fRun (X n) n T Tryz.f154 ia io)
end yaQ
namespace ya2
abbrev ia:List Ai:=[.ptr (.d yaK)]
abbrev io:List (Nat×Oi):=[(2,.dat .bool)]
abbrev R:Type:=DOut ia io
def X (n:Nat):Ctx:=⟨⟨tab,[ybr.en n,ya8.en n],0,[]⟩,33,bnOf 0 ia⟩
abbrev g1:List Si:=[.ref 0 500000 yaK,.dat 3 (.slice (.int .u8)),.box 500000 (.d yaK)]
def T:CT:=(.s .o (.s .o (.s .o (.s .o (.r g1 .o)))))
def J1 (n:Nat):(List (Int))×yam×Unit→Option R:=jR (X n) n T (yaM Tryz.f235) (endK ia io) g1 [1,1,1,1] []
def f (n:Nat)(r:yam):Option R:=fRun (X n) n T Tryz.f235 ia io (r,())
theorem e0 (n:Nat)(r:yam):f n r=bIf ((hide false)) (some (false,r,())) (bnd (ybr.f n r 1) λu1=>bIf ((hide (u1.2.1.2.1==(0:Int)))) (gIf (0≤(0:Int)∧(0:Int)<((u1.1.length:Nat):Int)) (gNo ((1:Int)<0) (bIf ((hide ((shrI .u8 (List.getD u1.1 0 0) 1) != (0:Int)))) (bnd (ya8.f n u1.2.1 2) λu2=>J1 n (u1.1,u2.1,())) (J1 n (u1.1,u1.2.1,()))))) (J1 n (u1.1,u1.2.1,()))):=(yae _).trans (by kernel_rfl)
theorem e1 (n:Nat)(b:List (Int))(r:yam):J1 n (b,r,())=bIf ((hide (r.2.1==(0:Int)))) (gIf (0≤(0:Int)∧(0:Int)<((b.length:Nat):Int)) (some ((hide ((List.getD b 0 0)==(1:Int))),r,()))) (some (false,r,())):=(yae _).trans (by kernel_rfl)
theorem ok (n:Nat):FnOk Tryz.prog 235 ia io (fRun (X n) n T Tryz.f235 ia io):=yaG mixed tabIs (yad (yac (ybr.ok n)) (yad (yac (ya8.ok n)) (yav))) Tryz.func235 (by kernel_rfl) rfl
def en (n:Nat):Entry:=yaB 235 ia io (fRun (X n) n T Tryz.f235 ia io)
end ya2
namespace ycf
abbrev ia:List Ai:=[.ptr (.d yaK)]
abbrev io:List (Nat×Oi):=[(2,.dat (.int .i64))]
abbrev R:Type:=DOut ia io
def X (n:Nat):Ctx:=⟨⟨tab,[ya1.en n,yfy.en n],0,[]⟩,6,bnOf 0 ia⟩
def T:CT := .o
def f (n:Nat)(r:yam):Option R:=fRun (X n) n T Tryz.f236 ia io (r,())
theorem e0 (n:Nat)(r:yam):f n r=bnd (ya1.f n r) λu1=>bnd (yfy.f n u1.1) λu2=>some (u2.1,u1.2.1,()):=(yae _).trans (by kernel_rfl)
theorem ok (n:Nat):FnOk Tryz.prog 236 ia io (fRun (X n) n T Tryz.f236 ia io):=yaG mixed tabIs (yad (yac (ya1.ok n)) (yad (yac (yfy.ok n)) (yav))) Tryz.func236 (by kernel_rfl) rfl
def en (n:Nat):Entry:=yaB 236 ia io (fRun (X n) n T Tryz.f236 ia io)
end ycf
namespace yax
abbrev ia:List Ai:=[.ptr (.d yaK)]
abbrev io:List (Nat×Oi):=[(2,.dat .str)]
abbrev R:Type:=DOut ia io
def X (n:Nat):Ctx:=⟨⟨tab,[yaR.en n,ybr.en n],0,[]⟩,12,bnOf 0 ia⟩
def T:CT := .o
def f (n:Nat)(r:yam):Option R:=fRun (X n) n T Tryz.f155 ia io (r,())
theorem e0 (n:Nat)(r:yam):f n r=bnd (yaR.f n r 16384) λu1=>bIf ((hide false)) (some ((⟨#[]⟩:ByteArray),u1.2.1,())) (bnd (ybr.f n u1.2.1 u1.1) λu2=>some ((yaT u2.1),u2.2.1,())):=(yae _).trans (by kernel_rfl)
theorem ok (n:Nat):FnOk Tryz.prog 155 ia io (fRun (X n) n T Tryz.f155 ia io):=yaG mixed tabIs (yad (yac (yaR.ok n)) (yad (yac (ybr.ok n)) (yav))) Tryz.func155 (by kernel_rfl) rfl
def en (n:Nat):Entry:=yaB 155 ia io (fRun (X n) n T Tryz.f155 ia io)
end yax
namespace ycp
abbrev ia:List Ai:=[.fn (.str 1) [(.d yaK)]]
abbrev io:List (Nat×Oi):=[(2,.cel (.d yaA))]
abbrev R:Type:=DOut ia io
def X (n:Nat):Ctx:=⟨⟨tab,[yaQ.en n],0,[]⟩,11,bnOf 0 ia⟩
def T:CT := .o
def f (n:Nat)(rc0:yam):Option R:=fRun (X n) n T Tryz.f207 ia io (rc0,())
theorem e0 (n:Nat)(rc0:yam):f n rc0=bnd (yaQ.f n rc0) λu1=>bnd (yaQ.f n u1.2.1) λu2=>some ((u1.1,(u2.1,())),u2.2.1,()):=(yae _).trans (by kernel_rfl)
theorem ok (n:Nat):FnOk Tryz.prog 207 ia io (fRun (X n) n T Tryz.f207 ia io):=yaG mixed tabIs (yad (yac (yaQ.ok n)) (yav)) Tryz.func207 (by kernel_rfl) rfl
def en (n:Nat):Entry:=yaB 207 ia io (fRun (X n) n T Tryz.f207 ia io)
end ycp
namespace ya5
abbrev ia:List Ai:=[.fn (.str 1) [(.d yaK)]]
abbrev io:List (Nat×Oi):=[(2,.val (.r 0 yaD))]
abbrev R:Type:=DOut ia io
def X (n:Nat):Ctx:=⟨⟨tab,[yax.en n,yaR.en n,ya2.en n],0,[]⟩,32,bnOf 0 ia⟩
abbrev g1:List Si:=[.ref 1 1 ydn,.val 3 (.r 200300 yaD),.dat 7 (.int .i64),.dat 8 (.int .i64),.box 1 (.p (.al 500000 yaK) (.d .unit)),.box 500000 (.d yaK)]
abbrev g2:List Si:=[.val 3 (.r 200300 yaD),.box 500000 (.d yaK)]
def T:CT:=(.s .o (.s .o (.s (.s .o (.b (.l g1 .o))) (.r g2 .o))))
def J1 (n:Nat)(m:Nat):(List (yat))×Int×Int×yc0×yam×Unit→Option R:=jL (X n) n T (yaM Tryz.f209) (endK ia io) g1 [1,1,0,1,0] [] m
def J2 (n:Nat):(List (yat))×yam×Unit→Option R:=jR (X n) n T (yaM Tryz.f209) (endK ia io) g2 [1,1,1] []
def f (n:Nat)(rc0:yam):Option R:=fRun (X n) n T Tryz.f209 ia io (rc0,())
theorem e0 (n:Nat)(rc0:yam):f n rc0=bnd (yaR.f n rc0 8) λu1=>J1 n n ([],u1.1,0,((),()),u1.2.1,()):=(yae _).trans (by kernel_rfl)
theorem e1 (n m:Nat)(out:List (yat))(t7:Int)(t8:Int)(r:yc0)(b500000:yam):J1 n (m+1) (out,t7,t8,r,b500000,())=bIf ((hide (decide (t8<t7)))) (bnd (ya2.f n b500000) λu1=>bnd (yax.f n u1.2.1) λu2=>bnd (yax.f n u2.2.1) λu3=>bnd (yax.f n u3.2.1) λu4=>gIf ((out.length+1)*56≤70368744177664) (J1 n m ((out++([(u1.1,(u2.1,(u3.1,(u4.1,()))))]:List (yat))),t7,(IntKind.i64.wrap (t8+(1:Int))),((),r.2),u4.2.1,()))) (J2 n (out,b500000,())):=(yae _).trans (by kernel_rfl)
theorem e2 (n:Nat)(out:List (yat))(b500000:yam):J2 n (out,b500000,())=some (out,b500000,()):=(yae _).trans (by kernel_rfl)
theorem ok (n:Nat):FnOk Tryz.prog 209 ia io (fRun (X n) n T Tryz.f209 ia io):=yaG mixed tabIs (yad (yac (yax.ok n)) (yad (yac (yaR.ok n)) (yad (yac (ya2.ok n)) (yav)))) Tryz.func209 (by kernel_rfl) rfl
def en (n:Nat):Entry:=yaB 209 ia io (fRun (X n) n T Tryz.f209 ia io)
end ya5
namespace ybH
abbrev ia:List Ai:=[.fn (.str 1) [(.d yaK)]]
abbrev io:List (Nat×Oi):=[(2,.cel (.d yaO))]
abbrev R:Type:=DOut ia io
def X (n:Nat):Ctx:=⟨⟨tab,[yaQ.en n,ya2.en n,ycf.en n],0,[]⟩,16,bnOf 0 ia⟩
def T:CT := .o
def f (n:Nat)(rc0:yam):Option R:=fRun (X n) n T Tryz.f212 ia io (rc0,())
theorem e0 (n:Nat)(rc0:yam):f n rc0=bnd (yaQ.f n rc0) λu1=>bnd (ycf.f n u1.2.1) λu2=>bnd (ya2.f n u2.2.1) λu3=>some ((u1.1,(u2.1,(u3.1,()))),u3.2.1,()):=(yae _).trans (by kernel_rfl)
theorem ok (n:Nat):FnOk Tryz.prog 212 ia io (fRun (X n) n T Tryz.f212 ia io):=yaG mixed tabIs (yad (yac (yaQ.ok n)) (yad (yac (ya2.ok n)) (yad (yac (ycf.ok n)) (yav)))) Tryz.func212 (by kernel_rfl) rfl
def en (n:Nat):Entry:=yaB 212 ia io (fRun (X n) n T Tryz.f212 ia io)
end ybH
namespace yaX
abbrev ia:List Ai:=[.fn (.str 1) [(.d yaK)]]
abbrev io:List (Nat×Oi):=[(2,.val (.r 0 yaw))]
abbrev R:Type:=DOut ia io
def X (n:Nat):Ctx:=⟨⟨tab,[yax.en n,yaR.en n],0,[]⟩,23,bnOf 0 ia⟩
abbrev g1:List Si:=[.ref 1 1 ydn,.val 3 (.r 200300 yaw),.dat 7 (.int .i64),.dat 8 (.int .i64),.box 1 (.p (.al 500000 yaK) (.d .unit)),.box 500000 (.d yaK)]
abbrev g2:List Si:=[.val 3 (.r 200300 yaw),.box 500000 (.d yaK)]
def T:CT:=(.s .o (.s .o (.s (.s .o (.b (.l g1 .o))) (.r g2 .o))))
def J1 (n:Nat)(m:Nat):(List (yaz))×Int×Int×yc0×yam×Unit→Option R:=jL (X n) n T (yaM Tryz.f211) (endK ia io) g1 [1,1,0,1,0] [] m
def J2 (n:Nat):(List (yaz))×yam×Unit→Option R:=jR (X n) n T (yaM Tryz.f211) (endK ia io) g2 [1,1,1] []
def f (n:Nat)(rc0:yam):Option R:=fRun (X n) n T Tryz.f211 ia io (rc0,())
theorem e0 (n:Nat)(rc0:yam):f n rc0=bnd (yaR.f n rc0 8) λu1=>J1 n n ([],u1.1,0,((),()),u1.2.1,()):=(yae _).trans (by kernel_rfl)
theorem e1 (n m:Nat)(out:List (yaz))(t7:Int)(t8:Int)(r:yc0)(b500000:yam):J1 n (m+1) (out,t7,t8,r,b500000,())=bIf ((hide (decide (t8<t7)))) (bnd (yax.f n b500000) λu1=>bnd (yax.f n u1.2.1) λu2=>gIf ((out.length+1)*32≤70368744177664) (J1 n m ((out++([(u1.1,(u2.1,()))]:List (yaz))),t7,(IntKind.i64.wrap (t8+(1:Int))),((),r.2),u2.2.1,()))) (J2 n (out,b500000,())):=(yae _).trans (by kernel_rfl)
theorem e2 (n:Nat)(out:List (yaz))(b500000:yam):J2 n (out,b500000,())=some (out,b500000,()):=(yae _).trans (by kernel_rfl)
theorem ok (n:Nat):FnOk Tryz.prog 211 ia io (fRun (X n) n T Tryz.f211 ia io):=yaG mixed tabIs (yad (yac (yax.ok n)) (yad (yac (yaR.ok n)) (yav))) Tryz.func211 (by kernel_rfl) rfl
def en (n:Nat):Entry:=yaB 211 ia io (fRun (X n) n T Tryz.f211 ia io)
end yaX
namespace ya9
abbrev ia:List Ai:=[.fn (.str 1) [(.d yaK)]]
abbrev io:List (Nat×Oi):=[(2,.val (.r 0 yaC))]
abbrev R:Type:=DOut ia io
def X (n:Nat):Ctx:=⟨⟨tab,[yaQ.en n,yax.en n,yaR.en n,yaX.en n,ya2.en n],0,[]⟩,33,bnOf 0 ia⟩
abbrev g1:List Si:=[.ref 1 1 ydn,.val 3 (.r 200300 yaC),.dat 7 (.int .i64),.dat 8 (.int .i64),.box 1 (.p (.al 500000 yaK) (.d .unit)),.box 500000 (.d yaK)]
abbrev g2:List Si:=[.val 3 (.r 200300 yaC),.box 500000 (.d yaK)]
def T:CT:=(.s .o (.s .o (.s (.s .o (.b (.l g1 .o))) (.r g2 .o))))
def J1 (n:Nat)(m:Nat):(List (yau))×Int×Int×yc0×yam×Unit→Option R:=jL (X n) n T (yaM Tryz.f208) (endK ia io) g1 [1,1,0,1,0] [] m
def J2 (n:Nat):(List (yau))×yam×Unit→Option R:=jR (X n) n T (yaM Tryz.f208) (endK ia io) g2 [1,1,1] []
def f (n:Nat)(rc0:yam):Option R:=fRun (X n) n T Tryz.f208 ia io (rc0,())
theorem e0 (n:Nat)(rc0:yam):f n rc0=bnd (yaR.f n rc0 8) λu1=>J1 n n ([],u1.1,0,((),()),u1.2.1,()):=(yae _).trans (by kernel_rfl)
theorem e1 (n m:Nat)(out:List (yau))(t7:Int)(t8:Int)(r:yc0)(b500000:yam):J1 n (m+1) (out,t7,t8,r,b500000,())=bIf ((hide (decide (t8<t7)))) (bnd (yax.f n b500000) λu1=>bnd (yaX.f n u1.2.1) λu2=>bnd (yaQ.f n u2.2.1) λu3=>bnd (yaQ.f n u3.2.1) λu4=>bnd (ya2.f n u4.2.1) λu5=>gIf ((out.length+1)*64≤70368744177664) (J1 n m ((out++([(u1.1,(u2.1,(u3.1,(u4.1,(u5.1,())))))]:List (yau))),t7,(IntKind.i64.wrap (t8+(1:Int))),((),r.2),u5.2.1,()))) (J2 n (out,b500000,())):=(yae _).trans (by kernel_rfl)
theorem e2 (n:Nat)(out:List (yau))(b500000:yam):J2 n (out,b500000,())=some (out,b500000,()):=(yae _).trans (by kernel_rfl)
theorem ok (n:Nat):FnOk Tryz.prog 208 ia io (fRun (X n) n T Tryz.f208 ia io):=yaG mixed tabIs (yad (yac (yaQ.ok n)) (yad (yac (yax.ok n)) (yad (yac (yaR.ok n)) (yad (yac (yaX.ok n)) (yad (yac (ya2.ok n)) (yav)))))) Tryz.func208 (by kernel_rfl) rfl
def en (n:Nat):Entry:=yaB 208 ia io (fRun (X n) n T Tryz.f208 ia io)
end ya9
namespace yds
abbrev ia:List Ai:=[.ptr (.d yaK)]
abbrev io:List (Nat×Oi):=[(2,.dat (.int .i64))]
abbrev R:Type:=DOut ia io
def X (n:Nat):Ctx:=⟨⟨tab,[],0,[]⟩,9,bnOf 0 ia⟩
def T:CT := .o
def f (n:Nat)(r:yam):Option R:=fRun (X n) n T Tryz.f218 ia io (r,())
theorem e0 (n:Nat)(r:yam):f n r=bIf ((hide false)) (some (1,r,())) (some (r.2.1,r,())):=(yae _).trans (by kernel_rfl)
theorem ok (n:Nat):FnOk Tryz.prog 218 ia io (fRun (X n) n T Tryz.f218 ia io):=yaG mixed tabIs (yav) Tryz.func218 (by kernel_rfl) rfl
def en (n:Nat):Entry:=yaB 218 ia io (fRun (X n) n T Tryz.f218 ia io)
end yds
namespace ydc
abbrev ia:List Ai:=[.ptr (.d yaK)]
abbrev io:List (Nat×Oi):=[(2,.dat (.int .i64))]
abbrev R:Type:=DOut ia io
def X (n:Nat):Ctx:=⟨⟨tab,[ya8.en n,yds.en n],0,[]⟩,24,bnOf 0 ia⟩
abbrev g1:List Si:=[.ref 0 500000 yaK,.box 500000 (.d yaK)]
def T:CT:=(.s .o (.s .o (.r g1 .o)))
def J1 (n:Nat):yam×Unit→Option R:=jR (X n) n T (yaM Tryz.f157) (endK ia io) g1 [1,1] []
def f (n:Nat)(r:yam):Option R:=fRun (X n) n T Tryz.f157 ia io (r,())
theorem e0 (n:Nat)(r:yam):f n r=bIf ((hide true)) (bIf ((hide (r.2.1==(0:Int)))) (bIf ((hide (decide (((r.1.length:Nat):Int)>(0:Int))))) (bnd (ya8.f n r 2) λu1=>J1 n (u1.1,())) (J1 n (r,()))) (J1 n (r,()))) (J1 n (r,())):=(yae _).trans (by kernel_rfl)
theorem e1 (n:Nat)(r:yam):J1 n (r,())=bnd (yds.f n r) λu1=>some (u1.1,u1.2.1,()):=(yae _).trans (by kernel_rfl)
theorem ok (n:Nat):FnOk Tryz.prog 157 ia io (fRun (X n) n T Tryz.f157 ia io):=yaG mixed tabIs (yad (yac (ya8.ok n)) (yad (yac (yds.ok n)) (yav))) Tryz.func157 (by kernel_rfl) rfl
def en (n:Nat):Entry:=yaB 157 ia io (fRun (X n) n T Tryz.f157 ia io)
end ydc
namespace yba
abbrev ia:List Ai:=[.dat (.int .i64)]
abbrev io:List (Nat×Oi):=[(2,.dat .bool)]
abbrev R:Type:=DOut ia io
def X (n:Nat):Ctx:=⟨⟨tab,[],0,[]⟩,9,bnOf 0 ia⟩
def T:CT := .o
def f (n:Nat)(kind:Int):Option R:=fRun (X n) n T Tryz.f130 ia io (kind,())
theorem e0 (n:Nat)(kind:Int):f n kind=bIf ((hide (kind==(21:Int)))) (some (true,())) (some ((hide (kind==(22:Int))),())):=(yae _).trans (by kernel_rfl)
theorem ok (n:Nat):FnOk Tryz.prog 130 ia io (fRun (X n) n T Tryz.f130 ia io):=yaG mixed tabIs (yav) Tryz.func130 (by kernel_rfl) rfl
def en (n:Nat):Entry:=yaB 130 ia io (fRun (X n) n T Tryz.f130 ia io)
end yba
namespace ye1
abbrev ia:List Ai:=[.dat yan]
abbrev io:List (Nat×Oi):=[(2,.dat .bool)]
abbrev R:Type:=DOut ia io
def X (n:Nat):Ctx:=⟨⟨tab,[],0,[]⟩,89,bnOf 0 ia⟩
def T:CT := .o
def f (n:Nat)(r:yak):Option R:=fRun (X n) n T Tryz.f133 ia io (r,())
theorem e0 (n:Nat)(r:yak):f n r=bIf ((hide (eqS r.2.2.2.1 (⟨#[]⟩:ByteArray)))) (bIf ((hide (r.2.2.2.2.1==(0:Int)))) (bIf ((hide (((r.2.2.2.2.2.1.length:Nat):Int)==(0:Int)))) (bIf ((hide (((r.2.2.2.2.2.2.1.length:Nat):Int)==(0:Int)))) (bIf ((hide (eqD yaO r.2.2.2.2.2.2.2.1 (0,(0,(false,())))))) (bIf ((!r.2.2.2.2.2.2.2.2.1)) (bIf ((hide (eqD yaA r.2.2.2.2.2.2.2.2.2.1 (0,(0,()))))) (bIf ((hide (((r.2.2.2.2.2.2.2.2.2.2.1.length:Nat):Int)==(0:Int)))) (bIf ((hide (((r.2.2.2.2.2.2.2.2.2.2.2.1.length:Nat):Int)==(0:Int)))) (bIf ((hide (r.2.2.2.2.2.2.2.2.2.2.2.2.1==(0:Int)))) (bIf ((hide (((r.2.2.2.2.2.2.2.2.2.2.2.2.2.1.length:Nat):Int)==(0:Int)))) (bIf ((hide (eqS r.2.2.2.2.2.2.2.2.2.2.2.2.2.2.1 (⟨#[]⟩:ByteArray)))) (bIf ((hide (eqS r.2.2.2.2.2.2.2.2.2.2.2.2.2.2.2.1 (⟨#[]⟩:ByteArray)))) (bIf ((hide (eqS r.2.2.2.2.2.2.2.2.2.2.2.2.2.2.2.2.1 (⟨#[]⟩:ByteArray)))) (bIf ((hide (eqD ya0 r.2.2.2.2.2.2.2.2.2.2.2.2.2.2.2.2.2.1 ((⟨#[]⟩:ByteArray),((⟨#[]⟩:ByteArray),(0,())))))) (some ((hide (r.2.2.2.2.2.2.2.2.2.2.2.2.2.2.2.2.2.2.1==(0:Int))),())) (some (false,()))) (some (false,()))) (some (false,()))) (some (false,()))) (some (false,()))) (some (false,()))) (some (false,()))) (some (false,()))) (some (false,()))) (some (false,()))) (some (false,()))) (some (false,()))) (some (false,()))) (some (false,()))) (some (false,())):=(yae _).trans (by kernel_rfl)
theorem ok (n:Nat):FnOk Tryz.prog 133 ia io (fRun (X n) n T Tryz.f133 ia io):=yaG mixed tabIs (yav) Tryz.func133 (by kernel_rfl) rfl
def en (n:Nat):Entry:=yaB 133 ia io (fRun (X n) n T Tryz.f133 ia io)
end ye1
namespace ydG
abbrev ia:List Ai:=[.dat .str]
abbrev io:List (Nat×Oi):=[(2,.dat .bool)]
abbrev R:Type:=DOut ia io
def X (n:Nat):Ctx:=⟨⟨tab,[ybk.en n],0,[]⟩,10,bnOf 0 ia⟩
def T:CT := .o
def f (n:Nat)(s_:ByteArray):Option R:=fRun (X n) n T Tryz.f191 ia io (s_,())
theorem e0 (n:Nat)(s_:ByteArray):f n s_=bIf ((hide (decide ((s_.size:Int)≤(200:Int))))) (bnd (ybk.f n s_) λu1=>some (u1.1,())) (some (false,())):=(yae _).trans (by kernel_rfl)
theorem ok (n:Nat):FnOk Tryz.prog 191 ia io (fRun (X n) n T Tryz.f191 ia io):=yaG mixed tabIs (yad (yac (ybk.ok n)) (yav)) Tryz.func191 (by kernel_rfl) rfl
def en (n:Nat):Entry:=yaB 191 ia io (fRun (X n) n T Tryz.f191 ia io)
end ydG
namespace yaN
abbrev ia:List Ai:=[.ptr (.d ybl),.dat .bool]
abbrev io:List (Nat×Oi):=[(4,.arg 0 500000 (.d ybl))]
abbrev R:Type:=DOut ia io
def X (n:Nat):Ctx:=⟨⟨tab,[],0,[]⟩,16,bnOf 0 ia⟩
def T:CT := .o
def f (n:Nat)(s_:ybo)(ok_:Bool):Option R:=fRun (X n) n T Tryz.f180 ia io (s_,ok_,())
theorem e0 (n:Nat)(s_:ybo)(ok_:Bool):f n s_ ok_=bIf (s_.2.1) (some ((s_.1,(ok_,s_.2.2)),())) (some ((s_.1,(false,s_.2.2)),())):=(yae _).trans (by kernel_rfl)
theorem ok (n:Nat):FnOk Tryz.prog 180 ia io (fRun (X n) n T Tryz.f180 ia io):=yaG mixed tabIs (yav) Tryz.func180 (by kernel_rfl) rfl
def en (n:Nat):Entry:=yaB 180 ia io (fRun (X n) n T Tryz.f180 ia io)
end yaN
namespace ydb
abbrev ia:List Ai:=[.ptr (.d ybl)]
abbrev io:List (Nat×Oi):=[(2,.arg 0 500000 (.d ybl))]
abbrev R:Type:=DOut ia io
def X (n:Nat):Ctx:=⟨⟨tab,[yaN.en n],0,[]⟩,16,bnOf 0 ia⟩
def T:CT := .o
def f (n:Nat)(s_:ybo):Option R:=fRun (X n) n T Tryz.f185 ia io (s_,())
theorem e0 (n:Nat)(s_:ybo):f n s_=bnd (yaN.f n s_ (hide (decide (((s_.1.2.2.2.2.2.1.length:Nat):Int)≤(1024:Int))))) λu1=>some (((u1.1.1.1,(u1.1.1.2.1,(u1.1.1.2.2.1,(u1.1.1.2.2.2.1,(u1.1.1.2.2.2.2.1,([],u1.1.1.2.2.2.2.2.2)))))),u1.1.2),()):=(yae _).trans (by kernel_rfl)
theorem ok (n:Nat):FnOk Tryz.prog 185 ia io (fRun (X n) n T Tryz.f185 ia io):=yaG mixed tabIs (yad (yac (yaN.ok n)) (yav)) Tryz.func185 (by kernel_rfl) rfl
def en (n:Nat):Entry:=yaB 185 ia io (fRun (X n) n T Tryz.f185 ia io)
end ydb
namespace ycQ
abbrev ia:List Ai:=[.ptr (.d ybl)]
abbrev io:List (Nat×Oi):=[(2,.arg 0 500000 (.d ybl))]
abbrev R:Type:=DOut ia io
def X (n:Nat):Ctx:=⟨⟨tab,[],0,[]⟩,8,bnOf 0 ia⟩
def T:CT := .o
def f (n:Nat)(s_:ybo):Option R:=fRun (X n) n T Tryz.f189 ia io (s_,())
theorem e0 (n:Nat)(s_:ybo):f n s_=some (((s_.1.1,(s_.1.2.1,(s_.1.2.2.1,(s_.1.2.2.2.1,(s_.1.2.2.2.2.1,(s_.1.2.2.2.2.2.1,(s_.1.2.2.2.2.2.2.1,(s_.1.2.2.2.2.2.2.2.1,(false,s_.1.2.2.2.2.2.2.2.2.2))))))))),s_.2),()):=(yae _).trans (by kernel_rfl)
theorem ok (n:Nat):FnOk Tryz.prog 189 ia io (fRun (X n) n T Tryz.f189 ia io):=yaG mixed tabIs (yav) Tryz.func189 (by kernel_rfl) rfl
def en (n:Nat):Entry:=yaB 189 ia io (fRun (X n) n T Tryz.f189 ia io)
end ycQ
namespace ycu
abbrev ia:List Ai:=[.ptr (.d ybl),.dat .bool]
abbrev io:List (Nat×Oi):=[(4,.arg 0 500000 (.d ybl))]
abbrev R:Type:=DOut ia io
def X (n:Nat):Ctx:=⟨⟨tab,[yaN.en n],0,[]⟩,13,bnOf 0 ia⟩
def T:CT := .o
def f (n:Nat)(s_:ybo)(ok_:Bool):Option R:=fRun (X n) n T Tryz.f192 ia io (s_,ok_,())
theorem e0 (n:Nat)(s_:ybo)(ok_:Bool):f n s_ ok_=bnd (yaN.f n s_ ok_) λu1=>some (((u1.1.1.1,(u1.1.1.2.1,(u1.1.1.2.2.1,(u1.1.1.2.2.2.1,(u1.1.1.2.2.2.2.1,(u1.1.1.2.2.2.2.2.1,(u1.1.1.2.2.2.2.2.2.1,(u1.1.1.2.2.2.2.2.2.2.1,(u1.1.1.2.2.2.2.2.2.2.2.1,(u1.1.1.2.2.2.2.2.2.2.2.2.1,(u1.1.1.2.2.2.2.2.2.2.2.2.2.1,(u1.1.1.2.2.2.2.2.2.2.2.2.2.2.1,(u1.1.1.2.2.2.2.2.2.2.2.2.2.2.2.1,(u1.1.1.2.2.2.2.2.2.2.2.2.2.2.2.2.1,(u1.1.1.2.2.2.2.2.2.2.2.2.2.2.2.2.2.1,(u1.1.1.2.2.2.2.2.2.2.2.2.2.2.2.2.2.2.1,(u1.1.1.2.2.2.2.2.2.2.2.2.2.2.2.2.2.2.2.1,(((⟨#[]⟩:ByteArray),((⟨#[]⟩:ByteArray),(0,()))),u1.1.1.2.2.2.2.2.2.2.2.2.2.2.2.2.2.2.2.2.2)))))))))))))))))),u1.1.2),()):=(yae _).trans (by kernel_rfl)
theorem ok (n:Nat):FnOk Tryz.prog 192 ia io (fRun (X n) n T Tryz.f192 ia io):=yaG mixed tabIs (yad (yac (yaN.ok n)) (yav)) Tryz.func192 (by kernel_rfl) rfl
def en (n:Nat):Entry:=yaB 192 ia io (fRun (X n) n T Tryz.f192 ia io)
end ycu
namespace ycj
abbrev ia:List Ai:=[.ptr (.d ybl),.dat (.int .u64)]
abbrev io:List (Nat×Oi):=[(4,.arg 0 500000 (.d ybl))]
abbrev R:Type:=DOut ia io
def X (n:Nat):Ctx:=⟨⟨tab,[yaN.en n],0,[]⟩,18,bnOf 0 ia⟩
def T:CT := .o
def f (n:Nat)(s_:ybo)(least:Int):Option R:=fRun (X n) n T Tryz.f188 ia io (s_,least,())
theorem e0 (n:Nat)(s_:ybo)(least:Int):f n s_ least=bnd (yaN.f n s_ (hide (decide (s_.1.2.2.2.2.1≥least)))) λu1=>some (((u1.1.1.1,(u1.1.1.2.1,(u1.1.1.2.2.1,(u1.1.1.2.2.2.1,(0,u1.1.1.2.2.2.2.2))))),u1.1.2),()):=(yae _).trans (by kernel_rfl)
theorem ok (n:Nat):FnOk Tryz.prog 188 ia io (fRun (X n) n T Tryz.f188 ia io):=yaG mixed tabIs (yad (yac (yaN.ok n)) (yav)) Tryz.func188 (by kernel_rfl) rfl
def en (n:Nat):Entry:=yaB 188 ia io (fRun (X n) n T Tryz.f188 ia io)
end ycj
namespace ybY
abbrev ia:List Ai:=[.ptr (.d ybl)]
abbrev io:List (Nat×Oi):=[(2,.arg 0 500000 (.d ybl))]
abbrev R:Type:=DOut ia io
def X (n:Nat):Ctx:=⟨⟨tab,[yaN.en n,yd3.en n],0,[]⟩,15,bnOf 0 ia⟩
def T:CT := .o
def f (n:Nat)(s_:ybo):Option R:=fRun (X n) n T Tryz.f184 ia io (s_,())
theorem e0 (n:Nat)(s_:ybo):f n s_=bnd (yd3.f n s_.1.2.2.2.1) λu1=>bnd (yaN.f n s_ u1.1) λu2=>some (((u2.1.1.1,(u2.1.1.2.1,(u2.1.1.2.2.1,((⟨#[]⟩:ByteArray),u2.1.1.2.2.2.2)))),u2.1.2),()):=(yae _).trans (by kernel_rfl)
theorem ok (n:Nat):FnOk Tryz.prog 184 ia io (fRun (X n) n T Tryz.f184 ia io):=yaG mixed tabIs (yad (yac (yaN.ok n)) (yad (yac (yd3.ok n)) (yav))) Tryz.func184 (by kernel_rfl) rfl
def en (n:Nat):Entry:=yaB 184 ia io (fRun (X n) n T Tryz.f184 ia io)
end ybY
namespace ycY
abbrev ia:List Ai:=[.ptr (.d ybl),.dat .bool]
abbrev io:List (Nat×Oi):=[(4,.arg 0 500000 (.d ybl))]
abbrev R:Type:=DOut ia io
def X (n:Nat):Ctx:=⟨⟨tab,[ydy.en n,yaN.en n],0,[]⟩,21,bnOf 0 ia⟩
def T:CT := .o
def f (n:Nat)(s_:ybo)(ok_:Bool):Option R:=fRun (X n) n T Tryz.f187 ia io (s_,ok_,())
theorem e0 (n:Nat)(s_:ybo)(ok_:Bool):f n s_ ok_=bnd (ydy.f n s_.1.2.2.2.2.2.2.2.1) λu1=>bIf (u1.1) (bnd (yaN.f n s_ ok_) λu2=>some (((u2.1.1.1,(u2.1.1.2.1,(u2.1.1.2.2.1,(u2.1.1.2.2.2.1,(u2.1.1.2.2.2.2.1,(u2.1.1.2.2.2.2.2.1,(u2.1.1.2.2.2.2.2.2.1,((0,(0,(false,()))),u2.1.1.2.2.2.2.2.2.2.2)))))))),u2.1.2),())) (bnd (yaN.f n s_ false) λu3=>some (((u3.1.1.1,(u3.1.1.2.1,(u3.1.1.2.2.1,(u3.1.1.2.2.2.1,(u3.1.1.2.2.2.2.1,(u3.1.1.2.2.2.2.2.1,(u3.1.1.2.2.2.2.2.2.1,((0,(0,(false,()))),u3.1.1.2.2.2.2.2.2.2.2)))))))),u3.1.2),())):=(yae _).trans (by kernel_rfl)
theorem ok (n:Nat):FnOk Tryz.prog 187 ia io (fRun (X n) n T Tryz.f187 ia io):=yaG mixed tabIs (yad (yac (ydy.ok n)) (yad (yac (yaN.ok n)) (yav))) Tryz.func187 (by kernel_rfl) rfl
def en (n:Nat):Entry:=yaB 187 ia io (fRun (X n) n T Tryz.f187 ia io)
end ycY
namespace yc2
abbrev ia:List Ai:=[.ptr (.d ybl)]
abbrev io:List (Nat×Oi):=[(2,.arg 0 500000 (.d ybl))]
abbrev R:Type:=DOut ia io
def X (n:Nat):Ctx:=⟨⟨tab,[yaN.en n,ydG.en n],0,[]⟩,36,bnOf 0 ia⟩
abbrev g1:List Si:=[.ref 0 500000 ybl,.box 500000 (.d ybl)]
def T:CT:=(.s .o (.s .o (.r g1 .o)))
def J1 (n:Nat):ybo×Unit→Option R:=jR (X n) n T (yaM Tryz.f190) (endK ia io) g1 [1,1] []
def f (n:Nat)(s_:ybo):Option R:=fRun (X n) n T Tryz.f190 ia io (s_,())
theorem e0 (n:Nat)(s_:ybo):f n s_=bnd (ydG.f n s_.1.2.2.2.2.2.2.2.2.2.2.2.2.2.2.2.1) λu1=>bIf (u1.1) (bIf ((hide (decide (s_.1.2.2.2.2.2.2.2.2.2.2.2.2.2.2.2.2.2.2.1≥(1:Int))))) (bnd (yaN.f n s_ (hide (decide (s_.1.2.2.2.2.2.2.2.2.2.2.2.2.2.2.2.2.2.2.1≤(100:Int))))) λu2=>J1 n (u2.1,())) (bnd (yaN.f n s_ false) λu3=>J1 n (u3.1,()))) (bnd (yaN.f n s_ false) λu4=>J1 n (u4.1,())):=(yae _).trans (by kernel_rfl)
theorem e1 (n:Nat)(s_:ybo):J1 n (s_,())=some (((s_.1.1,(s_.1.2.1,(s_.1.2.2.1,(s_.1.2.2.2.1,(s_.1.2.2.2.2.1,(s_.1.2.2.2.2.2.1,(s_.1.2.2.2.2.2.2.1,(s_.1.2.2.2.2.2.2.2.1,(s_.1.2.2.2.2.2.2.2.2.1,(s_.1.2.2.2.2.2.2.2.2.2.1,(s_.1.2.2.2.2.2.2.2.2.2.2.1,(s_.1.2.2.2.2.2.2.2.2.2.2.2.1,(s_.1.2.2.2.2.2.2.2.2.2.2.2.2.1,(s_.1.2.2.2.2.2.2.2.2.2.2.2.2.2.1,(s_.1.2.2.2.2.2.2.2.2.2.2.2.2.2.2.1,((⟨#[]⟩:ByteArray),(s_.1.2.2.2.2.2.2.2.2.2.2.2.2.2.2.2.2.1,(s_.1.2.2.2.2.2.2.2.2.2.2.2.2.2.2.2.2.2.1,(0,s_.1.2.2.2.2.2.2.2.2.2.2.2.2.2.2.2.2.2.2.2))))))))))))))))))),s_.2),()):=(yae _).trans (by kernel_rfl)
theorem ok (n:Nat):FnOk Tryz.prog 190 ia io (fRun (X n) n T Tryz.f190 ia io):=yaG mixed tabIs (yad (yac (yaN.ok n)) (yad (yac (ydG.ok n)) (yav))) Tryz.func190 (by kernel_rfl) rfl
def en (n:Nat):Entry:=yaB 190 ia io (fRun (X n) n T Tryz.f190 ia io)
end yc2
namespace yc1
abbrev ia:List Ai:=[.ptr (.d ybl)]
abbrev io:List (Nat×Oi):=[(2,.arg 0 500000 (.d ybl))]
abbrev R:Type:=DOut ia io
def X (n:Nat):Ctx:=⟨⟨tab,[ycB.en n,yaN.en n],0,[]⟩,15,bnOf 0 ia⟩
def T:CT := .o
def f (n:Nat)(s_:ybo):Option R:=fRun (X n) n T Tryz.f186 ia io (s_,())
theorem e0 (n:Nat)(s_:ybo):f n s_=bnd (ycB.f n s_.1.2.2.2.2.2.2.1) λu1=>bnd (yaN.f n s_ u1.1) λu2=>some (((u2.1.1.1,(u2.1.1.2.1,(u2.1.1.2.2.1,(u2.1.1.2.2.2.1,(u2.1.1.2.2.2.2.1,(u2.1.1.2.2.2.2.2.1,([],u2.1.1.2.2.2.2.2.2.2))))))),u2.1.2),()):=(yae _).trans (by kernel_rfl)
theorem ok (n:Nat):FnOk Tryz.prog 186 ia io (fRun (X n) n T Tryz.f186 ia io):=yaG mixed tabIs (yad (yac (ycB.ok n)) (yad (yac (yaN.ok n)) (yav))) Tryz.func186 (by kernel_rfl) rfl
def en (n:Nat):Entry:=yaB 186 ia io (fRun (X n) n T Tryz.f186 ia io)
end yc1
namespace yaf
abbrev ia:List Ai:=[.ptr (.d ybl)]
abbrev io:List (Nat×Oi):=[]
abbrev R:Type:=DOut ia io
def X (n:Nat):Ctx:=⟨⟨tab,[yb4.en n,yaN.en n,yeT.en n,yex.en n,yeh.en n,ybY.en n,ydb.en n,yc1.en n,ycY.en n,ycj.en n,ycQ.en n,yc2.en n,ydG.en n,ycu.en n,yd3.en n],0,[]⟩,192,bnOf 0 ia⟩
abbrev g1:List Si:=[.ref 0 500000 ybl,.ref 2 2 yan,.dat 8 (.int .i64),.dat 11 .bool,.box 2 (.d yan),.box 500000 (.d ybl)]
abbrev g2:List Si:=[.ref 0 500000 ybl,.ref 2 2 yan,.dat 8 (.int .i64),.dat 23 .bool,.box 2 (.d yan),.box 500000 (.d ybl)]
abbrev g3:List Si:=[.ref 0 500000 ybl,.ref 2 2 yan,.dat 8 (.int .i64),.dat 54 .bool,.box 2 (.d yan),.box 500000 (.d ybl)]
abbrev g4:List Si:=[.ref 0 500000 ybl,.box 500000 (.d ybl)]
def T:CT:=(.s .o (.s .o (.b (.s .o (.r g1 (.c .o (.s .o (.r g2 (.c .o (.s .o (.c .o (.s .o (.c .o (.s .o (.c .o (.s .o (.r g3 (.c .o (.s .o (.c .o (.s .o (.c .o (.s .o (.c .o (.s .o (.c .o (.s .o (.c .o (.s .o (.c (.s .o (.r g4 .o)) .o))))))))))))))))))))))))))))))
def J1 (n:Nat):Int×Bool×yak×ybo×Unit→Option R:=jR (X n) n T (yaM Tryz.f132) (endK ia io) g1 [1,1,0,1] []
def J2 (n:Nat):Int×Bool×yak×ybo×Unit→Option R:=jR (X n) n T (yaM Tryz.f132) (endK ia io) g2 [1,1,0,1,1,1] []
def J3 (n:Nat):Int×Bool×yak×ybo×Unit→Option R:=jR (X n) n T (yaM Tryz.f132) (endK ia io) g3 [1,1,0,1,1,1,1,1,1,1,1,1,1,1] []
def J4 (n:Nat):ybo×Unit→Option R:=jR (X n) n T (yaM Tryz.f132) (endK ia io) g4 [1,1,0,1,1,1,1,1,1,1,1,1,1,1,1,1,1,1,1,1,1,1,1,1,1,1,0,1] []
def f (n:Nat)(t:ybo):Option R:=fRun (X n) n T Tryz.f132 ia io (t,())
theorem e0 (n:Nat)(t:ybo):f n t=bIf ((hide (t.1.1==(1:Int)))) (J1 n (t.1.1,true,t.1,t,())) (J1 n (t.1.1,(hide (t.1.1==(3:Int))),t.1,t,())):=(yae _).trans (by kernel_rfl)
theorem e1 (n:Nat)(t8:Int)(t11:Bool)(A:yak)(t:ybo):J1 n (t8,t11,A,t,())=bIf (t11) (bnd (yeT.f n A.2.2.2.2.2.2.2.2.2.1) λu1=>bnd (yaN.f n t u1.1) λu2=>some (((u2.1.1.1,(u2.1.1.2.1,(u2.1.1.2.2.1,(u2.1.1.2.2.2.1,(u2.1.1.2.2.2.2.1,(u2.1.1.2.2.2.2.2.1,(u2.1.1.2.2.2.2.2.2.1,(u2.1.1.2.2.2.2.2.2.2.1,(u2.1.1.2.2.2.2.2.2.2.2.1,((0,(0,())),u2.1.1.2.2.2.2.2.2.2.2.2.2)))))))))),u2.1.2),())) (bIf ((hide (t8==(2:Int)))) (J2 n (t8,true,A,t,())) (bIf ((hide (t8==(21:Int)))) (J2 n (t8,true,A,t,())) (J2 n (t8,(hide (t8==(22:Int))),A,t,())))):=(yae _).trans (by kernel_rfl)
theorem e2 (n:Nat)(t8:Int)(t23:Bool)(A:yak)(t:ybo):J2 n (t8,t23,A,t,())=bIf (t23) (some (t,())) (bIf ((hide (t8==(4:Int)))) (bnd (yex.f n A.2.2.2.2.2.2.2.2.2.2.1) λu1=>bnd (yaN.f n t u1.1) λu2=>some (((u2.1.1.1,(u2.1.1.2.1,(u2.1.1.2.2.1,(u2.1.1.2.2.2.1,(u2.1.1.2.2.2.2.1,(u2.1.1.2.2.2.2.2.1,(u2.1.1.2.2.2.2.2.2.1,(u2.1.1.2.2.2.2.2.2.2.1,(u2.1.1.2.2.2.2.2.2.2.2.1,(u2.1.1.2.2.2.2.2.2.2.2.2.1,([],u2.1.1.2.2.2.2.2.2.2.2.2.2.2))))))))))),u2.1.2),())) (bIf ((hide (t8==(5:Int)))) (bnd (yeh.f n A.2.2.2.2.2.2.2.2.2.2.2.1) λu3=>bnd (yaN.f n t u3.1) λu4=>some (((u4.1.1.1,(u4.1.1.2.1,(u4.1.1.2.2.1,(u4.1.1.2.2.2.1,(u4.1.1.2.2.2.2.1,(u4.1.1.2.2.2.2.2.1,(u4.1.1.2.2.2.2.2.2.1,(u4.1.1.2.2.2.2.2.2.2.1,(u4.1.1.2.2.2.2.2.2.2.2.1,(u4.1.1.2.2.2.2.2.2.2.2.2.1,(u4.1.1.2.2.2.2.2.2.2.2.2.2.1,([],u4.1.1.2.2.2.2.2.2.2.2.2.2.2.2)))))))))))),u4.1.2),())) (bIf ((hide (t8==(6:Int)))) (bnd (ybY.f n t) λu5=>bnd (ydb.f n u5.1) λu6=>bnd (yc1.f n u6.1) λu7=>bnd (ycY.f n u7.1 true) λu8=>some (u8.1,())) (bIf ((hide (t8==(7:Int)))) (J3 n (t8,true,A,t,())) (J3 n (t8,(hide (t8==(8:Int))),A,t,())))))):=(yae _).trans (by kernel_rfl)
theorem e3 (n:Nat)(t8:Int)(t54:Bool)(A:yak)(t:ybo):J3 n (t8,t54,A,t,())=bIf (t54) (bnd (ybY.f n t) λu1=>bnd (ycj.f n u1.1 0) λu2=>some (u2.1,())) (bIf ((hide (t8==(9:Int)))) (bnd (ybY.f n t) λu3=>some (u3.1,())) (bIf ((hide (t8==(10:Int)))) (bnd (ybY.f n t) λu4=>bnd (ycj.f n u4.1 1) λu5=>bnd (ycQ.f n u5.1) λu6=>some (u6.1,())) (bIf ((hide (t8==(11:Int)))) (bnd (ybY.f n t) λu7=>bnd (ycj.f n u7.1 0) λu8=>bnd (ycY.f n u8.1 (!A.2.2.2.2.2.2.2.1.2.2.1)) λu9=>bnd (ycQ.f n u9.1) λu10=>some (u10.1,())) (bIf ((hide (t8==(12:Int)))) (bnd (ybY.f n t) λu11=>bnd (ycj.f n u11.1 0) λu12=>bnd (ycY.f n u12.1 (hide (A.2.2.2.2.2.2.2.1.1==(0:Int)))) λu13=>some (u13.1,())) (bIf ((hide (t8==(13:Int)))) (bnd (ybY.f n t) λu14=>bnd (ycj.f n u14.1 0) λu15=>bnd (yc1.f n u15.1) λu16=>some (u16.1,())) (bIf ((hide (t8==(14:Int)))) (bnd (yc2.f n t) λu17=>bnd (ydG.f n A.2.2.2.2.2.2.2.2.2.2.2.2.2.2.2.2.1) λu18=>bIf (u18.1) (bnd (ydG.f n A.2.2.2.2.2.2.2.2.2.2.2.2.2.2.1) λu19=>bnd (yaN.f n u17.1 u19.1) λu20=>J4 n (u20.1,())) (bnd (yaN.f n u17.1 false) λu21=>J4 n (u21.1,()))) (bIf ((hide (t8==(15:Int)))) (bnd (yc2.f n t) λu22=>bIf ((hide (eqS A.2.2.2.2.2.2.2.2.2.2.2.2.2.2.2.2.2.1.1 (⟨#[]⟩:ByteArray)))) (bnd (ydG.f n A.2.2.2.2.2.2.2.2.2.2.2.2.2.2.2.2.2.1.2.1) λu23=>bnd (ycu.f n u22.1 u23.1) λu24=>some (u24.1,())) (bnd (ycu.f n u22.1 false) λu25=>some (u25.1,()))) (bIf ((hide (t8==(16:Int)))) (bnd (ybY.f n t) λu26=>bnd (yc1.f n u26.1) λu27=>some (u27.1,())) (bIf ((hide (t8==(17:Int)))) (bnd (ycj.f n t 1) λu28=>bnd (ydb.f n u28.1) λu29=>bIf ((hide (decide (A.2.2.2.2.2.2.2.2.2.2.2.2.1≥(1:Int))))) (bnd (yaN.f n u29.1 (hide (decide (A.2.2.2.2.2.2.2.2.2.2.2.2.1≤(10000:Int))))) λu30=>some (((u30.1.1.1,(u30.1.1.2.1,(u30.1.1.2.2.1,(u30.1.1.2.2.2.1,(u30.1.1.2.2.2.2.1,(u30.1.1.2.2.2.2.2.1,(u30.1.1.2.2.2.2.2.2.1,(u30.1.1.2.2.2.2.2.2.2.1,(u30.1.1.2.2.2.2.2.2.2.2.1,(u30.1.1.2.2.2.2.2.2.2.2.2.1,(u30.1.1.2.2.2.2.2.2.2.2.2.2.1,(u30.1.1.2.2.2.2.2.2.2.2.2.2.2.1,(0,u30.1.1.2.2.2.2.2.2.2.2.2.2.2.2.2))))))))))))),u30.1.2),())) (bnd (yaN.f n u29.1 false) λu31=>some (((u31.1.1.1,(u31.1.1.2.1,(u31.1.1.2.2.1,(u31.1.1.2.2.2.1,(u31.1.1.2.2.2.2.1,(u31.1.1.2.2.2.2.2.1,(u31.1.1.2.2.2.2.2.2.1,(u31.1.1.2.2.2.2.2.2.2.1,(u31.1.1.2.2.2.2.2.2.2.2.1,(u31.1.1.2.2.2.2.2.2.2.2.2.1,(u31.1.1.2.2.2.2.2.2.2.2.2.2.1,(u31.1.1.2.2.2.2.2.2.2.2.2.2.2.1,(0,u31.1.1.2.2.2.2.2.2.2.2.2.2.2.2.2))))))))))))),u31.1.2),()))) (bIf ((hide (t8==(18:Int)))) (bnd (ycj.f n t 1) λu32=>bnd (yaN.f n u32.1 (hide (decide (((A.2.2.2.2.2.2.2.2.2.2.2.2.2.1.length:Nat):Int)≤(16:Int))))) λu33=>some (((u33.1.1.1,(u33.1.1.2.1,(u33.1.1.2.2.1,(u33.1.1.2.2.2.1,(u33.1.1.2.2.2.2.1,(u33.1.1.2.2.2.2.2.1,(u33.1.1.2.2.2.2.2.2.1,(u33.1.1.2.2.2.2.2.2.2.1,(u33.1.1.2.2.2.2.2.2.2.2.1,(u33.1.1.2.2.2.2.2.2.2.2.2.1,(u33.1.1.2.2.2.2.2.2.2.2.2.2.1,(u33.1.1.2.2.2.2.2.2.2.2.2.2.2.1,(u33.1.1.2.2.2.2.2.2.2.2.2.2.2.2.1,([],u33.1.1.2.2.2.2.2.2.2.2.2.2.2.2.2.2)))))))))))))),u33.1.2),())) (bIf ((hide (t8==(19:Int)))) (bnd (ycj.f n t 1) λu34=>some (u34.1,())) (bIf ((hide (t8==(20:Int)))) (bnd (ybY.f n t) λu35=>bnd (yb4.f n A.2.2.2.2.2.2.2.2.2.2.2.2.2.2.2.2.2.1.1) λu36=>bIf (u36.1) (bnd (yd3.f n A.2.2.2.2.2.2.2.2.2.2.2.2.2.2.2.2.2.1.2.1) λu37=>bIf (u37.1) (bnd (ycu.f n u35.1 (hide (decide (A.2.2.2.2.2.2.2.2.2.2.2.2.2.2.2.2.2.1.2.2.1≥(1:Int))))) λu38=>some (u38.1,())) (bnd (ycu.f n u35.1 false) λu39=>some (u39.1,()))) (bnd (ycu.f n u35.1 false) λu40=>some (u40.1,()))) (bnd (yaN.f n t false) λu41=>some (u41.1,())))))))))))))):=(yae _).trans (by kernel_rfl)
theorem e4 (n:Nat)(t:ybo):J4 n (t,())=some (((t.1.1,(t.1.2.1,(t.1.2.2.1,(t.1.2.2.2.1,(t.1.2.2.2.2.1,(t.1.2.2.2.2.2.1,(t.1.2.2.2.2.2.2.1,(t.1.2.2.2.2.2.2.2.1,(t.1.2.2.2.2.2.2.2.2.1,(t.1.2.2.2.2.2.2.2.2.2.1,(t.1.2.2.2.2.2.2.2.2.2.2.1,(t.1.2.2.2.2.2.2.2.2.2.2.2.1,(t.1.2.2.2.2.2.2.2.2.2.2.2.2.1,(t.1.2.2.2.2.2.2.2.2.2.2.2.2.2.1,((⟨#[]⟩:ByteArray),(t.1.2.2.2.2.2.2.2.2.2.2.2.2.2.2.2.1,((⟨#[]⟩:ByteArray),t.1.2.2.2.2.2.2.2.2.2.2.2.2.2.2.2.2.2))))))))))))))))),t.2),()):=(yae _).trans (by kernel_rfl)
theorem ok (n:Nat):FnOk Tryz.prog 132 ia io (fRun (X n) n T Tryz.f132 ia io):=yaG mixed tabIs (yad (yac (yb4.ok n)) (yad (yac (yaN.ok n)) (yad (yac (yeT.ok n)) (yad (yac (yex.ok n)) (yad (yac (yeh.ok n)) (yad (yac (ybY.ok n)) (yad (yac (ydb.ok n)) (yad (yac (yc1.ok n)) (yad (yac (ycY.ok n)) (yad (yac (ycj.ok n)) (yad (yac (ycQ.ok n)) (yad (yac (yc2.ok n)) (yad (yac (ydG.ok n)) (yad (yac (ycu.ok n)) (yad (yac (yd3.ok n)) (yav)))))))))))))))) Tryz.func132 (by kernel_rfl) rfl
def en (n:Nat):Entry:=yaB 132 ia io (fRun (X n) n T Tryz.f132 ia io)
end yaf
namespace yaH
abbrev ia:List Ai:=[.dat yan]
abbrev io:List (Nat×Oi):=[(2,.dat .bool)]
abbrev R:Type:=DOut ia io
def X (n:Nat):Ctx:=⟨⟨tab,[ybk.en n,yba.en n,yb4.en n,yaf.en n,ye1.en n],0,[]⟩,50,bnOf 0 ia⟩
abbrev g1:List Si:=[.ref 1 1 yan,.box 1 (.d yan)]
def T:CT:=(.s .o (.s .o (.r g1 .o)))
def J1 (n:Nat):yak×Unit→Option R:=jR (X n) n T (yaM Tryz.f75) (endK ia io) g1 [1,1] []
def f (n:Nat)(r:yak):Option R:=fRun (X n) n T Tryz.f75 ia io (r,())
theorem e0 (n:Nat)(r:yak):f n r=bIf ((hide (decide ((r.2.1.size:Int)>(64:Int))))) (some (false,())) (bnd (ybk.f n r.2.1) λu1=>bIf ((!u1.1)) (some (false,())) (bnd (yba.f n r.1) λu2=>bIf ((hide (!(u2.1==(hide (eqS r.2.2.1 (⟨#[]⟩:ByteArray))))))) (some (false,())) (bIf ((hide (!eqS r.2.2.1 (⟨#[]⟩:ByteArray)))) (bnd (yb4.f n r.2.2.1) λu3=>bIf ((!u3.1)) (some (false,())) (J1 n (r,()))) (J1 n (r,()))))):=(yae _).trans (by kernel_rfl)
theorem e1 (n:Nat)(r:yak):J1 n (r,())=bnd (yaf.f n (r,(true,()))) λu1=>bIf (u1.1.2.1) (bnd (ye1.f n u1.1.1) λu2=>some (u2.1,())) (some (false,())):=(yae _).trans (by kernel_rfl)
theorem ok (n:Nat):FnOk Tryz.prog 75 ia io (fRun (X n) n T Tryz.f75 ia io):=yaG mixed tabIs (yad (yac (ybk.ok n)) (yad (yac (yba.ok n)) (yad (yac (yb4.ok n)) (yad (yac (yaf.ok n)) (yad (yac (ye1.ok n)) (yav)))))) Tryz.func75 (by kernel_rfl) rfl
def en (n:Nat):Entry:=yaB 75 ia io (fRun (X n) n T Tryz.f75 ia io)
end yaH
namespace yaU
abbrev ia:List Ai:=[.dat .str,.dat (.int .u8)]
abbrev io:List (Nat×Oi):=[(4,.dat .bool)]
abbrev R:Type:=DOut ia io
def X (n:Nat):Ctx:=⟨⟨tab,[],0,[]⟩,17,bnOf 0 ia⟩
abbrev g1:List Si:=[.dat 0 .str,.dat 1 (.int .u8),.dat 5 (.int .i64)]
abbrev g2:List Si:=[]
def T:CT:=(.s .o (.s (.s .o (.b (.l g1 .o))) (.r g2 .o)))
def J1 (n:Nat)(m:Nat):ByteArray×Int×Int×Unit→Option R:=jL (X n) n T (yaM Tryz.f84) (endK ia io) g1 [1,0,1,0] [] m
def J2 (n:Nat):Unit→Option R:=jR (X n) n T (yaM Tryz.f84) (endK ia io) g2 [1,1] []
def f (n:Nat)(s_:ByteArray)(b:Int):Option R:=fRun (X n) n T Tryz.f84 ia io (s_,b,())
theorem e0 (n:Nat)(s_:ByteArray)(b:Int):f n s_ b=J1 n n (s_,b,0,()):=(yae _).trans (by kernel_rfl)
theorem e1 (n m:Nat)(s_:ByteArray)(b:Int)(i:Int):J1 n (m+1) (s_,b,i,())=bIf ((hide (decide (i<(s_.size:Int))))) (gIf (0≤i∧i<(s_.size:Int)) (bIf ((hide ((bt s_ i)==b))) (some (true,())) (J1 n m (s_,b,(IntKind.i64.wrap (i+(1:Int))),())))) (J2 n (())):=(yae _).trans (by kernel_rfl)
theorem e2 (n:Nat):J2 n (())=some (false,()):=(yae _).trans (by kernel_rfl)
theorem ok (n:Nat):FnOk Tryz.prog 84 ia io (fRun (X n) n T Tryz.f84 ia io):=yaG mixed tabIs (yav) Tryz.func84 (by kernel_rfl) rfl
def en (n:Nat):Entry:=yaB 84 ia io (fRun (X n) n T Tryz.f84 ia io)
end yaU
namespace ycz
abbrev ia:List Ai:=[.dat yan,.dat .str]
abbrev io:List (Nat×Oi):=[(4,.dat .bool)]
abbrev R:Type:=DOut ia io
def X (n:Nat):Ctx:=⟨⟨tab,[yaU.en n],0,[]⟩,159,bnOf 0 ia⟩
abbrev g1:List Si:=[.dat 1 .str,.ref 2 2 yan,.dat 5 .bool,.box 2 (.d yan)]
abbrev g2:List Si:=[.dat 1 .str,.ref 2 2 yan,.dat 5 .bool,.box 2 (.d yan)]
abbrev g3:List Si:=[.dat 1 .str,.ref 2 2 yan,.dat 5 .bool,.box 2 (.d yan)]
def T:CT:=(.s .o (.s .o (.r g1 (.s .o (.r g2 (.s .o (.r g3 .o)))))))
def J1 (n:Nat):ByteArray×Bool×yak×Unit→Option R:=jR (X n) n T (yaM Tryz.f83) (endK ia io) g1 [1,1] []
def J2 (n:Nat):ByteArray×Bool×yak×Unit→Option R:=jR (X n) n T (yaM Tryz.f83) (endK ia io) g2 [1,1,1] []
def J3 (n:Nat):ByteArray×Bool×yak×Unit→Option R:=jR (X n) n T (yaM Tryz.f83) (endK ia io) g3 [1,1,1,1] []
def f (n:Nat)(t:yak)(o:ByteArray):Option R:=fRun (X n) n T Tryz.f83 ia io (t,o,())
theorem e0 (n:Nat)(t:yak)(o:ByteArray):f n t o=bnd (yaU.f n o 107) λu1=>bIf (u1.1) (bnd (yaU.f n o 105) λu2=>bIf (u2.1) (bnd (yaU.f n o 66) λu3=>bIf (u3.1) (bnd (yaU.f n o 116) λu4=>bIf (u4.1) (J1 n (o,true,t,())) (J1 n (o,(hide (((t.2.2.2.2.2.2.1.length:Nat):Int)==(0:Int))),t,()))) (bIf ((hide (((t.2.2.2.2.2.1.length:Nat):Int)==(0:Int)))) (bnd (yaU.f n o 116) λu5=>bIf (u5.1) (J1 n (o,true,t,())) (J1 n (o,(hide (((t.2.2.2.2.2.2.1.length:Nat):Int)==(0:Int))),t,()))) (J1 n (o,false,t,())))) (bIf ((hide (t.2.2.2.2.1==(0:Int)))) (bnd (yaU.f n o 66) λu6=>bIf (u6.1) (bnd (yaU.f n o 116) λu7=>bIf (u7.1) (J1 n (o,true,t,())) (J1 n (o,(hide (((t.2.2.2.2.2.2.1.length:Nat):Int)==(0:Int))),t,()))) (bIf ((hide (((t.2.2.2.2.2.1.length:Nat):Int)==(0:Int)))) (bnd (yaU.f n o 116) λu8=>bIf (u8.1) (J1 n (o,true,t,())) (J1 n (o,(hide (((t.2.2.2.2.2.2.1.length:Nat):Int)==(0:Int))),t,()))) (J1 n (o,false,t,())))) (J1 n (o,false,t,())))) (bIf ((hide (eqS t.2.2.2.1 (⟨#[]⟩:ByteArray)))) (bnd (yaU.f n o 105) λu9=>bIf (u9.1) (bnd (yaU.f n o 66) λu10=>bIf (u10.1) (bnd (yaU.f n o 116) λu11=>bIf (u11.1) (J1 n (o,true,t,())) (J1 n (o,(hide (((t.2.2.2.2.2.2.1.length:Nat):Int)==(0:Int))),t,()))) (bIf ((hide (((t.2.2.2.2.2.1.length:Nat):Int)==(0:Int)))) (bnd (yaU.f n o 116) λu12=>bIf (u12.1) (J1 n (o,true,t,())) (J1 n (o,(hide (((t.2.2.2.2.2.2.1.length:Nat):Int)==(0:Int))),t,()))) (J1 n (o,false,t,())))) (bIf ((hide (t.2.2.2.2.1==(0:Int)))) (bnd (yaU.f n o 66) λu13=>bIf (u13.1) (bnd (yaU.f n o 116) λu14=>bIf (u14.1) (J1 n (o,true,t,())) (J1 n (o,(hide (((t.2.2.2.2.2.2.1.length:Nat):Int)==(0:Int))),t,()))) (bIf ((hide (((t.2.2.2.2.2.1.length:Nat):Int)==(0:Int)))) (bnd (yaU.f n o 116) λu15=>bIf (u15.1) (J1 n (o,true,t,())) (J1 n (o,(hide (((t.2.2.2.2.2.2.1.length:Nat):Int)==(0:Int))),t,()))) (J1 n (o,false,t,())))) (J1 n (o,false,t,())))) (J1 n (o,false,t,()))):=(yae _).trans (by kernel_rfl)
theorem e1 (n:Nat)(o:ByteArray)(a:Bool)(A:yak):J1 n (o,a,A,())=bIf (a) (bnd (yaU.f n o 108) λu1=>bIf (u1.1) (bnd (yaU.f n o 121) λu2=>bIf (u2.1) (bnd (yaU.f n o 100) λu3=>bIf (u3.1) (bnd (yaU.f n o 114) λu4=>bIf (u4.1) (J2 n (o,true,A,())) (J2 n (o,(hide (((A.2.2.2.2.2.2.2.2.2.2.1.length:Nat):Int)==(0:Int))),A,()))) (bIf ((hide (eqD yaA A.2.2.2.2.2.2.2.2.2.1 (0,(0,()))))) (bnd (yaU.f n o 114) λu5=>bIf (u5.1) (J2 n (o,true,A,())) (J2 n (o,(hide (((A.2.2.2.2.2.2.2.2.2.2.1.length:Nat):Int)==(0:Int))),A,()))) (J2 n (o,false,A,())))) (bIf ((!A.2.2.2.2.2.2.2.2.1)) (bnd (yaU.f n o 100) λu6=>bIf (u6.1) (bnd (yaU.f n o 114) λu7=>bIf (u7.1) (J2 n (o,true,A,())) (J2 n (o,(hide (((A.2.2.2.2.2.2.2.2.2.2.1.length:Nat):Int)==(0:Int))),A,()))) (bIf ((hide (eqD yaA A.2.2.2.2.2.2.2.2.2.1 (0,(0,()))))) (bnd (yaU.f n o 114) λu8=>bIf (u8.1) (J2 n (o,true,A,())) (J2 n (o,(hide (((A.2.2.2.2.2.2.2.2.2.2.1.length:Nat):Int)==(0:Int))),A,()))) (J2 n (o,false,A,())))) (J2 n (o,false,A,())))) (bIf ((hide (eqD yaO A.2.2.2.2.2.2.2.1 (0,(0,(false,())))))) (bnd (yaU.f n o 121) λu9=>bIf (u9.1) (bnd (yaU.f n o 100) λu10=>bIf (u10.1) (bnd (yaU.f n o 114) λu11=>bIf (u11.1) (J2 n (o,true,A,())) (J2 n (o,(hide (((A.2.2.2.2.2.2.2.2.2.2.1.length:Nat):Int)==(0:Int))),A,()))) (bIf ((hide (eqD yaA A.2.2.2.2.2.2.2.2.2.1 (0,(0,()))))) (bnd (yaU.f n o 114) λu12=>bIf (u12.1) (J2 n (o,true,A,())) (J2 n (o,(hide (((A.2.2.2.2.2.2.2.2.2.2.1.length:Nat):Int)==(0:Int))),A,()))) (J2 n (o,false,A,())))) (bIf ((!A.2.2.2.2.2.2.2.2.1)) (bnd (yaU.f n o 100) λu13=>bIf (u13.1) (bnd (yaU.f n o 114) λu14=>bIf (u14.1) (J2 n (o,true,A,())) (J2 n (o,(hide (((A.2.2.2.2.2.2.2.2.2.2.1.length:Nat):Int)==(0:Int))),A,()))) (bIf ((hide (eqD yaA A.2.2.2.2.2.2.2.2.2.1 (0,(0,()))))) (bnd (yaU.f n o 114) λu15=>bIf (u15.1) (J2 n (o,true,A,())) (J2 n (o,(hide (((A.2.2.2.2.2.2.2.2.2.2.1.length:Nat):Int)==(0:Int))),A,()))) (J2 n (o,false,A,())))) (J2 n (o,false,A,())))) (J2 n (o,false,A,())))) (J2 n (o,false,A,())):=(yae _).trans (by kernel_rfl)
theorem e2 (n:Nat)(o:ByteArray)(a:Bool)(A:yak):J2 n (o,a,A,())=bIf (a) (bnd (yaU.f n o 103) λu1=>bIf (u1.1) (bnd (yaU.f n o 110) λu2=>bIf (u2.1) (bnd (yaU.f n o 78) λu3=>bIf (u3.1) (bnd (yaU.f n o 97) λu4=>bIf (u4.1) (J3 n (o,true,A,())) (J3 n (o,(hide (eqS A.2.2.2.2.2.2.2.2.2.2.2.2.2.2.1 (⟨#[]⟩:ByteArray))),A,()))) (bIf ((hide (((A.2.2.2.2.2.2.2.2.2.2.2.2.2.1.length:Nat):Int)==(0:Int)))) (bnd (yaU.f n o 97) λu5=>bIf (u5.1) (J3 n (o,true,A,())) (J3 n (o,(hide (eqS A.2.2.2.2.2.2.2.2.2.2.2.2.2.2.1 (⟨#[]⟩:ByteArray))),A,()))) (J3 n (o,false,A,())))) (bIf ((hide (A.2.2.2.2.2.2.2.2.2.2.2.2.1==(0:Int)))) (bnd (yaU.f n o 78) λu6=>bIf (u6.1) (bnd (yaU.f n o 97) λu7=>bIf (u7.1) (J3 n (o,true,A,())) (J3 n (o,(hide (eqS A.2.2.2.2.2.2.2.2.2.2.2.2.2.2.1 (⟨#[]⟩:ByteArray))),A,()))) (bIf ((hide (((A.2.2.2.2.2.2.2.2.2.2.2.2.2.1.length:Nat):Int)==(0:Int)))) (bnd (yaU.f n o 97) λu8=>bIf (u8.1) (J3 n (o,true,A,())) (J3 n (o,(hide (eqS A.2.2.2.2.2.2.2.2.2.2.2.2.2.2.1 (⟨#[]⟩:ByteArray))),A,()))) (J3 n (o,false,A,())))) (J3 n (o,false,A,())))) (bIf ((hide (((A.2.2.2.2.2.2.2.2.2.2.2.1.length:Nat):Int)==(0:Int)))) (bnd (yaU.f n o 110) λu9=>bIf (u9.1) (bnd (yaU.f n o 78) λu10=>bIf (u10.1) (bnd (yaU.f n o 97) λu11=>bIf (u11.1) (J3 n (o,true,A,())) (J3 n (o,(hide (eqS A.2.2.2.2.2.2.2.2.2.2.2.2.2.2.1 (⟨#[]⟩:ByteArray))),A,()))) (bIf ((hide (((A.2.2.2.2.2.2.2.2.2.2.2.2.2.1.length:Nat):Int)==(0:Int)))) (bnd (yaU.f n o 97) λu12=>bIf (u12.1) (J3 n (o,true,A,())) (J3 n (o,(hide (eqS A.2.2.2.2.2.2.2.2.2.2.2.2.2.2.1 (⟨#[]⟩:ByteArray))),A,()))) (J3 n (o,false,A,())))) (bIf ((hide (A.2.2.2.2.2.2.2.2.2.2.2.2.1==(0:Int)))) (bnd (yaU.f n o 78) λu13=>bIf (u13.1) (bnd (yaU.f n o 97) λu14=>bIf (u14.1) (J3 n (o,true,A,())) (J3 n (o,(hide (eqS A.2.2.2.2.2.2.2.2.2.2.2.2.2.2.1 (⟨#[]⟩:ByteArray))),A,()))) (bIf ((hide (((A.2.2.2.2.2.2.2.2.2.2.2.2.2.1.length:Nat):Int)==(0:Int)))) (bnd (yaU.f n o 97) λu15=>bIf (u15.1) (J3 n (o,true,A,())) (J3 n (o,(hide (eqS A.2.2.2.2.2.2.2.2.2.2.2.2.2.2.1 (⟨#[]⟩:ByteArray))),A,()))) (J3 n (o,false,A,())))) (J3 n (o,false,A,())))) (J3 n (o,false,A,())))) (J3 n (o,false,A,())):=(yae _).trans (by kernel_rfl)
theorem e3 (n:Nat)(o:ByteArray)(a:Bool)(A:yak):J3 n (o,a,A,())=bIf (a) (bnd (yaU.f n o 112) λu1=>bIf (u1.1) (bnd (yaU.f n o 109) λu2=>bIf (u2.1) (bnd (yaU.f n o 102) λu3=>bIf (u3.1) (bnd (yaU.f n o 120) λu4=>bIf (u4.1) (some (true,())) (some ((hide (A.2.2.2.2.2.2.2.2.2.2.2.2.2.2.2.2.2.2.1==(0:Int))),()))) (bIf ((hide (eqD ya0 A.2.2.2.2.2.2.2.2.2.2.2.2.2.2.2.2.2.1 ((⟨#[]⟩:ByteArray),((⟨#[]⟩:ByteArray),(0,())))))) (bnd (yaU.f n o 120) λu5=>bIf (u5.1) (some (true,())) (some ((hide (A.2.2.2.2.2.2.2.2.2.2.2.2.2.2.2.2.2.2.1==(0:Int))),()))) (some (false,())))) (bIf ((hide (eqS A.2.2.2.2.2.2.2.2.2.2.2.2.2.2.2.2.1 (⟨#[]⟩:ByteArray)))) (bnd (yaU.f n o 102) λu6=>bIf (u6.1) (bnd (yaU.f n o 120) λu7=>bIf (u7.1) (some (true,())) (some ((hide (A.2.2.2.2.2.2.2.2.2.2.2.2.2.2.2.2.2.2.1==(0:Int))),()))) (bIf ((hide (eqD ya0 A.2.2.2.2.2.2.2.2.2.2.2.2.2.2.2.2.2.1 ((⟨#[]⟩:ByteArray),((⟨#[]⟩:ByteArray),(0,())))))) (bnd (yaU.f n o 120) λu8=>bIf (u8.1) (some (true,())) (some ((hide (A.2.2.2.2.2.2.2.2.2.2.2.2.2.2.2.2.2.2.1==(0:Int))),()))) (some (false,())))) (some (false,())))) (bIf ((hide (eqS A.2.2.2.2.2.2.2.2.2.2.2.2.2.2.2.1 (⟨#[]⟩:ByteArray)))) (bnd (yaU.f n o 109) λu9=>bIf (u9.1) (bnd (yaU.f n o 102) λu10=>bIf (u10.1) (bnd (yaU.f n o 120) λu11=>bIf (u11.1) (some (true,())) (some ((hide (A.2.2.2.2.2.2.2.2.2.2.2.2.2.2.2.2.2.2.1==(0:Int))),()))) (bIf ((hide (eqD ya0 A.2.2.2.2.2.2.2.2.2.2.2.2.2.2.2.2.2.1 ((⟨#[]⟩:ByteArray),((⟨#[]⟩:ByteArray),(0,())))))) (bnd (yaU.f n o 120) λu12=>bIf (u12.1) (some (true,())) (some ((hide (A.2.2.2.2.2.2.2.2.2.2.2.2.2.2.2.2.2.2.1==(0:Int))),()))) (some (false,())))) (bIf ((hide (eqS A.2.2.2.2.2.2.2.2.2.2.2.2.2.2.2.2.1 (⟨#[]⟩:ByteArray)))) (bnd (yaU.f n o 102) λu13=>bIf (u13.1) (bnd (yaU.f n o 120) λu14=>bIf (u14.1) (some (true,())) (some ((hide (A.2.2.2.2.2.2.2.2.2.2.2.2.2.2.2.2.2.2.1==(0:Int))),()))) (bIf ((hide (eqD ya0 A.2.2.2.2.2.2.2.2.2.2.2.2.2.2.2.2.2.1 ((⟨#[]⟩:ByteArray),((⟨#[]⟩:ByteArray),(0,())))))) (bnd (yaU.f n o 120) λu15=>bIf (u15.1) (some (true,())) (some ((hide (A.2.2.2.2.2.2.2.2.2.2.2.2.2.2.2.2.2.2.1==(0:Int))),()))) (some (false,())))) (some (false,())))) (some (false,())))) (some (false,())):=(yae _).trans (by kernel_rfl)
theorem ok (n:Nat):FnOk Tryz.prog 83 ia io (fRun (X n) n T Tryz.f83 ia io):=yaG mixed tabIs (yad (yac (yaU.ok n)) (yav)) Tryz.func83 (by kernel_rfl) rfl
def en (n:Nat):Entry:=yaB 83 ia io (fRun (X n) n T Tryz.f83 ia io)
end ycz
namespace yeB
abbrev ia:List Ai:=[.dat (.int .i64)]
abbrev io:List (Nat×Oi):=[(2,.dat .str)]
abbrev R:Type:=DOut ia io
def X (n:Nat):Ctx:=⟨⟨tab,[],0,[]⟩,40,bnOf 0 ia⟩
abbrev g1:List Si:=[.dat 3 (.int .i64),.dat 4 .bool]
abbrev g2:List Si:=[.dat 3 (.int .i64),.dat 13 .bool]
def T:CT:=(.s .o (.s (.s .o (.b (.s .o (.r g1 (.c .o (.s .o (.c .o (.s .o (.c .o (.s .o (.c .o (.s .o (.r g2 .o))))))))))))) .o))
def J1 (n:Nat):Int×Bool×Unit→Option R:=jR (X n) n T (yaM Tryz.f82) (endK ia io) g1 [1,0,1,0,1] []
def J2 (n:Nat):Int×Bool×Unit→Option R:=jR (X n) n T (yaM Tryz.f82) (endK ia io) g2 [1,0,1,0,1,1,1,1,1,1,1,1,1] []
def f (n:Nat)(kind:Int):Option R:=fRun (X n) n T Tryz.f82 ia io (kind,())
theorem e0 (n:Nat)(kind:Int):f n kind=bIf ((hide (kind==(1:Int)))) (J1 n (kind,true,())) (J1 n (kind,(hide (kind==(3:Int))),())):=(yae _).trans (by kernel_rfl)
theorem e1 (n:Nat)(t3:Int)(t4:Bool):J1 n (t3,t4,())=bIf (t4) (some ((⟨#[100]⟩:ByteArray),())) (bIf ((hide (t3==(4:Int)))) (some ((⟨#[114]⟩:ByteArray),())) (bIf ((hide (t3==(5:Int)))) (some ((⟨#[103]⟩:ByteArray),())) (bIf ((hide (t3==(6:Int)))) (some ((⟨#[107,66,116,108]⟩:ByteArray),())) (bIf ((hide (t3==(7:Int)))) (J2 n (t3,true,())) (J2 n (t3,(hide (t3==(8:Int))),())))))):=(yae _).trans (by kernel_rfl)
theorem e2 (n:Nat)(t3:Int)(t13:Bool):J2 n (t3,t13,())=bIf (t13) (some ((⟨#[107,105]⟩:ByteArray),())) (bIf ((hide (t3==(9:Int)))) (some ((⟨#[107]⟩:ByteArray),())) (bIf ((hide (t3==(10:Int)))) (some ((⟨#[107,105,121]⟩:ByteArray),())) (bIf ((hide (t3==(11:Int)))) (some ((⟨#[107,105,108,121]⟩:ByteArray),())) (bIf ((hide (t3==(12:Int)))) (some ((⟨#[107,105,108]⟩:ByteArray),())) (bIf ((hide (t3==(13:Int)))) (some ((⟨#[107,105,116]⟩:ByteArray),())) (bIf ((hide (t3==(14:Int)))) (some ((⟨#[112,109,97,120]⟩:ByteArray),())) (bIf ((hide (t3==(15:Int)))) (some ((⟨#[112,102,120]⟩:ByteArray),())) (bIf ((hide (t3==(16:Int)))) (some ((⟨#[107,116]⟩:ByteArray),())) (bIf ((hide (t3==(17:Int)))) (some ((⟨#[105,110,66]⟩:ByteArray),())) (bIf ((hide (t3==(18:Int)))) (some ((⟨#[105,78]⟩:ByteArray),())) (bIf ((hide (t3==(19:Int)))) (some ((⟨#[105]⟩:ByteArray),())) (bIf ((hide (t3==(20:Int)))) (some ((⟨#[107,102]⟩:ByteArray),())) (some ((⟨#[46]⟩:ByteArray),())))))))))))))):=(yae _).trans (by kernel_rfl)
theorem ok (n:Nat):FnOk Tryz.prog 82 ia io (fRun (X n) n T Tryz.f82 ia io):=yaG mixed tabIs (yav) Tryz.func82 (by kernel_rfl) rfl
def en (n:Nat):Entry:=yaB 82 ia io (fRun (X n) n T Tryz.f82 ia io)
end yeB
namespace ydi
abbrev ia:List Ai:=[.dat .str]
abbrev io:List (Nat×Oi):=[(2,.dat .bool)]
abbrev R:Type:=DOut ia io
def X (n:Nat):Ctx:=⟨⟨tab,[yaI.en n],0,[]⟩,10,bnOf 0 ia⟩
def T:CT := .o
def f (n:Nat)(s_:ByteArray):Option R:=fRun (X n) n T Tryz.f91 ia io (s_,())
theorem e0 (n:Nat)(s_:ByteArray):f n s_=bIf ((hide (decide ((s_.size:Int)≤(200:Int))))) (bnd (yaI.f n s_) λu1=>some (u1.1,())) (some (false,())):=(yae _).trans (by kernel_rfl)
theorem ok (n:Nat):FnOk Tryz.prog 91 ia io (fRun (X n) n T Tryz.f91 ia io):=yaG mixed tabIs (yad (yac (yaI.ok n)) (yav)) Tryz.func91 (by kernel_rfl) rfl
def en (n:Nat):Entry:=yaB 91 ia io (fRun (X n) n T Tryz.f91 ia io)
end ydi
namespace yb0
abbrev ia:List Ai:=[.dat yan]
abbrev io:List (Nat×Oi):=[(2,.dat .bool)]
abbrev R:Type:=DOut ia io
def X (n:Nat):Ctx:=⟨⟨tab,[yaI.en n,yb3.en n,yeB.en n,ycz.en n,yaU.en n,yeQ.en n,yb9.en n,yea.en n,yey.en n,yc6.en n,ycM.en n,ydi.en n],0,[]⟩,224,bnOf 0 ia⟩
abbrev g1:List Si:=[.ref 1 1 yan,.box 1 (.d yan)]
abbrev g2:List Si:=[.ref 1 1 yan,.box 1 (.d yan)]
abbrev g3:List Si:=[.ref 1 1 yan,.dat 3 .str,.dat 4 (.int .u64),.box 1 (.d yan)]
abbrev g4:List Si:=[.ref 1 1 yan,.dat 3 .str,.dat 5 .bool,.box 1 (.d yan)]
abbrev g5:List Si:=[.ref 1 1 yan,.dat 5 .bool,.box 1 (.d yan)]
def T:CT:=(.s .o (.s .o (.r g1 (.s .o (.r g2 (.s .o (.s .o (.s .o (.s .o (.r g3 (.s .o (.r g4 (.s .o (.r g5 .o))))))))))))))
def J1 (n:Nat):yak×Unit→Option R:=jR (X n) n T (yaM Tryz.f47) (endK ia io) g1 [1,1] []
def J2 (n:Nat):yak×Unit→Option R:=jR (X n) n T (yaM Tryz.f47) (endK ia io) g2 [1,1,1] []
def J3 (n:Nat):ByteArray×Int×yak×Unit→Option R:=jR (X n) n T (yaM Tryz.f47) (endK ia io) g3 [1,1,1,1,1,1,1] []
def J4 (n:Nat):ByteArray×Bool×yak×Unit→Option R:=jR (X n) n T (yaM Tryz.f47) (endK ia io) g4 [1,1,1,1,1,1,1,1] []
def J5 (n:Nat):Bool×yak×Unit→Option R:=jR (X n) n T (yaM Tryz.f47) (endK ia io) g5 [1,1,1,1,1,1,1,1,1] []
def f (n:Nat)(t:yak):Option R:=fRun (X n) n T Tryz.f47 ia io (t,())
theorem e0 (n:Nat)(t:yak):f n t=bIf ((hide (decide (t.1<(1:Int))))) (some (false,())) (bIf ((hide (decide (t.1>(22:Int))))) (some (false,())) (bIf ((hide (decide ((t.2.1.size:Int)>(64:Int))))) (some (false,())) (bnd (yaI.f n t.2.1) λu1=>bIf ((!u1.1)) (some (false,())) (J1 n (t,()))))):=(yae _).trans (by kernel_rfl)
theorem e1 (n:Nat)(o:yak):J1 n (o,())=bIf ((hide (decide (o.1≥(21:Int))))) (bIf ((hide (!eqS o.2.2.1 (⟨#[]⟩:ByteArray)))) (some (false,())) (bIf ((hide (decide (o.1<(21:Int))))) (bnd (yb3.f n o.2.2.1) λu1=>bIf ((!u1.1)) (some (false,())) (J2 n (o,()))) (J2 n (o,())))) (bIf ((hide (decide (o.1<(21:Int))))) (bnd (yb3.f n o.2.2.1) λu2=>bIf ((!u2.1)) (some (false,())) (J2 n (o,()))) (J2 n (o,()))):=(yae _).trans (by kernel_rfl)
theorem e2 (n:Nat)(o:yak):J2 n (o,())=bnd (yeB.f n o.1) λu1=>bnd (ycz.f n o u1.1) λu2=>bIf ((!u2.1)) (some (false,())) (bIf ((hide (o.1==(10:Int)))) (J3 n (u1.1,1,o,())) (bIf ((hide (o.1==(17:Int)))) (J3 n (u1.1,1,o,())) (bIf ((hide (o.1==(18:Int)))) (J3 n (u1.1,1,o,())) (bIf ((hide (o.1==(19:Int)))) (J3 n (u1.1,1,o,())) (J3 n (u1.1,0,o,())))))):=(yae _).trans (by kernel_rfl)
theorem e3 (n:Nat)(r:ByteArray)(r':Int)(o:yak):J3 n (r,r',o,())=bnd (yaU.f n r 107) λu1=>bIf ((!u1.1)) (bIf ((hide (decide (o.2.2.2.2.1≥r')))) (bIf ((hide (decide (((o.2.2.2.2.2.1.length:Nat):Int)≤(1024:Int))))) (bnd (yb9.f n o.2.2.2.2.2.2.1) λu2=>bIf (u2.1) (bnd (yea.f n o.2.2.2.2.2.2.2.1) λu3=>bIf (u3.1) (bnd (yey.f n o.2.2.2.2.2.2.2.2.2.1) λu4=>bIf (u4.1) (bnd (yc6.f n o.2.2.2.2.2.2.2.2.2.2.1) λu5=>bIf (u5.1) (bnd (ycM.f n o.2.2.2.2.2.2.2.2.2.2.2.1) λu6=>J4 n (r,u6.1,o,())) (J4 n (r,false,o,()))) (J4 n (r,false,o,()))) (J4 n (r,false,o,()))) (J4 n (r,false,o,()))) (J4 n (r,false,o,()))) (J4 n (r,false,o,()))) (bnd (yeQ.f n o.2.2.2.1) λu7=>bIf (u7.1) (bIf ((hide (decide (o.2.2.2.2.1≥r')))) (bIf ((hide (decide (((o.2.2.2.2.2.1.length:Nat):Int)≤(1024:Int))))) (bnd (yb9.f n o.2.2.2.2.2.2.1) λu8=>bIf (u8.1) (bnd (yea.f n o.2.2.2.2.2.2.2.1) λu9=>bIf (u9.1) (bnd (yey.f n o.2.2.2.2.2.2.2.2.2.1) λu10=>bIf (u10.1) (bnd (yc6.f n o.2.2.2.2.2.2.2.2.2.2.1) λu11=>bIf (u11.1) (bnd (ycM.f n o.2.2.2.2.2.2.2.2.2.2.2.1) λu12=>J4 n (r,u12.1,o,())) (J4 n (r,false,o,()))) (J4 n (r,false,o,()))) (J4 n (r,false,o,()))) (J4 n (r,false,o,()))) (J4 n (r,false,o,()))) (J4 n (r,false,o,()))) (J4 n (r,false,o,()))):=(yae _).trans (by kernel_rfl)
theorem e4 (n:Nat)(r:ByteArray)(a:Bool)(o:yak):J4 n (r,a,o,())=bIf (a) (bnd (yaU.f n r 110) λu1=>bIf ((!u1.1)) (bIf ((hide (decide (((o.2.2.2.2.2.2.2.2.2.2.2.2.2.1.length:Nat):Int)≤(16:Int))))) (bnd (ydi.f n o.2.2.2.2.2.2.2.2.2.2.2.2.2.2.1) λu2=>bIf (u2.1) (bnd (ydi.f n o.2.2.2.2.2.2.2.2.2.2.2.2.2.2.2.1) λu3=>bIf (u3.1) (bnd (ydi.f n o.2.2.2.2.2.2.2.2.2.2.2.2.2.2.2.2.1) λu4=>bIf (u4.1) (bnd (yaU.f n r 120) λu5=>bIf ((!u5.1)) (J5 n (true,o,())) (bIf ((hide (decide (o.2.2.2.2.2.2.2.2.2.2.2.2.2.2.2.2.2.2.1≥(1:Int))))) (J5 n ((hide (decide (o.2.2.2.2.2.2.2.2.2.2.2.2.2.2.2.2.2.2.1≤(100:Int)))),o,())) (J5 n (false,o,())))) (J5 n (false,o,()))) (J5 n (false,o,()))) (J5 n (false,o,()))) (J5 n (false,o,()))) (bIf ((hide (decide (o.2.2.2.2.2.2.2.2.2.2.2.2.1≥(1:Int))))) (bIf ((hide (decide (o.2.2.2.2.2.2.2.2.2.2.2.2.1≤(10000:Int))))) (bIf ((hide (decide (((o.2.2.2.2.2.2.2.2.2.2.2.2.2.1.length:Nat):Int)≤(16:Int))))) (bnd (ydi.f n o.2.2.2.2.2.2.2.2.2.2.2.2.2.2.1) λu6=>bIf (u6.1) (bnd (ydi.f n o.2.2.2.2.2.2.2.2.2.2.2.2.2.2.2.1) λu7=>bIf (u7.1) (bnd (ydi.f n o.2.2.2.2.2.2.2.2.2.2.2.2.2.2.2.2.1) λu8=>bIf (u8.1) (bnd (yaU.f n r 120) λu9=>bIf ((!u9.1)) (J5 n (true,o,())) (bIf ((hide (decide (o.2.2.2.2.2.2.2.2.2.2.2.2.2.2.2.2.2.2.1≥(1:Int))))) (J5 n ((hide (decide (o.2.2.2.2.2.2.2.2.2.2.2.2.2.2.2.2.2.2.1≤(100:Int)))),o,())) (J5 n (false,o,())))) (J5 n (false,o,()))) (J5 n (false,o,()))) (J5 n (false,o,()))) (J5 n (false,o,()))) (J5 n (false,o,()))) (J5 n (false,o,())))) (J5 n (false,o,())):=(yae _).trans (by kernel_rfl)
theorem e5 (n:Nat)(a:Bool)(o:yak):J5 n (a,o,())=bIf ((hide (o.1==(11:Int)))) (bIf (a) (some ((!o.2.2.2.2.2.2.2.1.2.2.1),())) (some (false,()))) (bIf ((hide (o.1==(12:Int)))) (bIf (a) (some ((hide (o.2.2.2.2.2.2.2.1.1==(0:Int))),())) (some (false,()))) (bIf ((hide (o.1==(15:Int)))) (bIf (a) (bIf ((hide (eqS o.2.2.2.2.2.2.2.2.2.2.2.2.2.2.2.2.2.1.1 (⟨#[]⟩:ByteArray)))) (bnd (ydi.f n o.2.2.2.2.2.2.2.2.2.2.2.2.2.2.2.2.2.1.2.1) λu1=>some (u1.1,())) (some (false,()))) (some (false,()))) (bIf ((hide (o.1==(20:Int)))) (bIf (a) (bnd (yb3.f n o.2.2.2.2.2.2.2.2.2.2.2.2.2.2.2.2.2.1.1) λu2=>bIf (u2.1) (bnd (yeQ.f n o.2.2.2.2.2.2.2.2.2.2.2.2.2.2.2.2.2.1.2.1) λu3=>bIf (u3.1) (some ((hide (decide (o.2.2.2.2.2.2.2.2.2.2.2.2.2.2.2.2.2.1.2.2.1≥(1:Int)))),())) (some (false,()))) (some (false,()))) (some (false,()))) (some (a,()))))):=(yae _).trans (by kernel_rfl)
theorem ok (n:Nat):FnOk Tryz.prog 47 ia io (fRun (X n) n T Tryz.f47 ia io):=yaG mixed tabIs (yad (yac (yaI.ok n)) (yad (yac (yb3.ok n)) (yad (yac (yeB.ok n)) (yad (yac (ycz.ok n)) (yad (yac (yaU.ok n)) (yad (yac (yeQ.ok n)) (yad (yac (yb9.ok n)) (yad (yac (yea.ok n)) (yad (yac (yey.ok n)) (yad (yac (yc6.ok n)) (yad (yac (ycM.ok n)) (yad (yac (ydi.ok n)) (yav))))))))))))) Tryz.func47 (by kernel_rfl) rfl
def en (n:Nat):Entry:=yaB 47 ia io (fRun (X n) n T Tryz.f47 ia io)
end yb0
namespace yeJ
abbrev ia:List Ai:=[]
abbrev io:List (Nat×Oi):=[(0,.new 0 (.p (.r 0 (.int .u8)) (.d .unit)))]
abbrev R:Type:=DOut ia io
def X (n:Nat):Ctx:=⟨⟨tab,[],0,[]⟩,3,bnOf 0 ia⟩
def T:CT := .o
def f (n:Nat):Option R:=fRun (X n) n T Tryz.f116 ia io (())
theorem e0 (n:Nat):f n=some (([],()),()):=(yae _).trans (by kernel_rfl)
theorem ok (n:Nat):FnOk Tryz.prog 116 ia io (fRun (X n) n T Tryz.f116 ia io):=yaG mixed tabIs (yav) Tryz.func116 (by kernel_rfl) rfl
def en (n:Nat):Entry:=yaB 116 ia io (fRun (X n) n T Tryz.f116 ia io)
end yeJ
end
end Go.Proofs.YtdlkpmohjhjmfaaGreatDoor
