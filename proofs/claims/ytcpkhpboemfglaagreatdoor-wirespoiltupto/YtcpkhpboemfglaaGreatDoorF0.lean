/-
  What the functions compute, by the abstract interpreter.
-/
import Derived.Test.YtcpkhpboemfglaaGreatDoorVaTree
import Derived.Test.YtcpkhpboemfglaaGreatDoorChecked
import Derived.Lib.LaidU8T
import Derived.Test.YtcpkhpboemfglaaGreatDoorVaLeaf
import Derived.Shelf.Unicode.ValidAny
import Derived.Shelf.Small.Strs
import Derived.Shelf.Strings.Split
import Derived.Shelf.Strings.SlTrimAscii
set_option linter.unusedVariables false
set_option linter.unusedSimpArgs false
namespace Go.Proofs.YtcpkhpboemfglaaGreatDoor
open Go Go.Va Go.Proofs
abbrev ycX:Ty:=(.pair (.opq 0) .unit)
abbrev ycC:Type:=Unit×Unit
abbrev yby:Ty:=(.pair (.slice (.int .u8)) .unit)
abbrev yaO:Type:=(List (Int))×Unit
abbrev yax:Ty:=(.pair .str (.pair .str .unit))
abbrev yak:Type:=ByteArray×ByteArray×Unit
abbrev ybE:Ty:=(.pair ycX .unit)
abbrev ya7:Type:=ycC×Unit
abbrev T_runtime_errorAddressString:Ty:=(.pair .str (.pair (.int .u64) .unit))
abbrev ycM:Ty:=(.pair (.int .i64) (.pair (.int .u8) .unit))
abbrev ybp:Type:=Int×Int×Unit
abbrev yaC:Ty:=(.pair (.int .i64) (.pair (.int .i64) .unit))
abbrev yad:Type:=Int×Int×Unit
abbrev yaK:Ty:=(.pair (.slice (.int .u8)) (.pair (.int .i64) .unit))
abbrev yat:Type:=(List (Int))×Int×Unit
abbrev ya1:Ty:=(.pair .str T_runtime_errorAddressString)
abbrev yaq:Type:=ByteArray×ByteArray×Int×Unit
abbrev yaT:Ty:=(.pair (.int .i64) (.pair (.int .i64) (.pair .bool .unit)))
abbrev yan:Type:=Int×Int×Bool×Unit
abbrev yaJ:Ty:=(.pair .bool (.pair .str yax))
abbrev yac:Type:=Bool×ByteArray×ByteArray×ByteArray×Unit
abbrev T_api_Part:Ty:=(.pair (.int .i64) (.pair (.int .i64) (.pair (.int .u64) (.pair (.arr 32 (.int .u8)) .unit))))
abbrev D_api_Part:Type:=Int×Int×Int×(List (Int))×Unit
abbrev yaF:Ty:=(.pair .str (.pair (.slice yax) yaT))
abbrev yag:Type:=ByteArray×(List (yak))×Int×Int×Bool×Unit
abbrev yca:Ty:=(.pair (.int .u64) (.pair .bool (.pair (.int .i64) (.pair (.int .u64) (.pair (.arr 32 (.int .u8)) (.pair (.int .i64) (.pair yaT (.pair (.slice yax) .unit))))))))
abbrev ybw:Type:=Int×Bool×Int×Int×(List (Int))×Int×yan×(List (yak))×Unit
abbrev ycy:Ty:=(.pair .str (.pair .bool (.pair yca (.pair .bool .unit))))
abbrev ycc:Type:=ByteArray×Bool×ybw×Bool×Unit
abbrev yas:Ty:=(.pair (.int .i64) (.pair .str (.pair .str (.pair .str (.pair (.int .u64) (.pair (.slice (.int .u8)) (.pair (.slice yax) (.pair yaT (.pair .bool (.pair yaC (.pair (.slice yaF) (.pair (.slice yaJ) (.pair (.int .i64) (.pair (.slice (.int .i64)) (.pair .str (.pair .str (.pair .str (.pair ya1 (.pair (.int .i64) .unit)))))))))))))))))))
abbrev yao:Type:=Int×ByteArray×ByteArray×ByteArray×Int×(List (Int))×(List (yak))×yan×Bool×yad×(List (yag))×(List (yac))×Int×(List (Int))×ByteArray×ByteArray×ByteArray×yaq×Int×Unit
abbrev ycG:Ty:=(.pair (.int .i64) (.pair (.int .u64) (.pair (.slice (.int .u8)) (.pair yca (.pair (.slice ycy) (.pair .bool (.pair (.slice (.int .i64)) (.pair (.slice .str) .unit))))))))
abbrev ycl:Type:=Int×Int×(List (Int))×ybw×(List (ycc))×Bool×(List (Int))×(List (ByteArray))×Unit
abbrev ybl:Ty:=(.pair yas (.pair .bool .unit))
abbrev ybo:Type:=yao×Bool×Unit
abbrev yei:Ty:=(.pair (.int .i64) (.pair (.int .i64) (.pair .str (.pair .str (.pair (.int .u64) (.pair yca (.pair yaT (.pair (.slice yax) (.pair yaC (.pair (.slice yaF) (.pair (.slice yaJ) (.pair T_api_Part .unit))))))))))))
abbrev yeb:Type:=Int×Int×ByteArray×ByteArray×Int×ybw×yan×(List (yak))×yad×(List (yag))×(List (yac))×D_api_Part×Unit
noncomputable def tab:List (Nat×TE):=[(1,⟨(.opq 1),0⟩),(2,⟨(.int .i64),0⟩),(3,⟨(.int .i64),0⟩),(4,⟨.bool,0⟩),(5,⟨(.int .u8),0⟩),(9,⟨.str,0⟩),(22,⟨(.slice yei),344⟩),(23,⟨(.slice (.int .u8)),1⟩),(24,⟨(.int .i64),0⟩),(30,⟨(.opq 1),0⟩),(31,⟨(.int .u64),0⟩),(32,⟨(.arr 32 (.int .u8)),0⟩),(33,⟨(.arr 32 (.int .u8)),0⟩),(34,⟨yaT,0⟩),(35,⟨yaT,0⟩),(36,⟨(.slice yax),32⟩),(37,⟨yca,0⟩),(38,⟨yca,0⟩),(39,⟨yaC,0⟩),(40,⟨yaC,0⟩),(41,⟨(.slice yaF),64⟩),(42,⟨(.slice yaJ),56⟩),(43,⟨T_api_Part,0⟩),(44,⟨T_api_Part,0⟩),(45,⟨yei,0⟩),(46,⟨yei,0⟩),(53,⟨(.int .u16),0⟩),(55,⟨(.slice (.int .i64)),8⟩),(56,⟨ya1,0⟩),(57,⟨ya1,0⟩),(58,⟨yas,0⟩),(59,⟨yas,0⟩),(66,⟨(.slice ycy),152⟩),(67,⟨(.slice .str),16⟩),(68,⟨ycG,0⟩),(69,⟨ycG,0⟩),(79,⟨(.opq 0),0⟩),(80,⟨ycX,0⟩),(81,⟨ycX,0⟩),(89,⟨(.opq 1),0⟩),(104,⟨yaJ,0⟩),(105,⟨yaJ,0⟩),(106,⟨(.opq 0),0⟩),(107,⟨ycX,0⟩),(108,⟨ycX,0⟩),(117,⟨ybE,0⟩),(118,⟨ybE,0⟩),(122,⟨(.opq 0),0⟩),(125,⟨ybE,0⟩),(126,⟨ybE,0⟩),(134,⟨ycy,0⟩),(135,⟨ycy,0⟩),(137,⟨(.opq 1),0⟩),(155,⟨yby,0⟩),(156,⟨yby,0⟩),(165,⟨yax,0⟩),(166,⟨yax,0⟩),(167,⟨yaF,0⟩),(168,⟨yaF,0⟩),(170,⟨(.opq 1),0⟩),(173,⟨yaK,0⟩),(174,⟨yaK,0⟩),(187,⟨(.opq 1),0⟩),(189,⟨(.opq 1),0⟩),(193,⟨(.opq 0),0⟩),(194,⟨ybl,0⟩),(195,⟨ybl,0⟩),(198,⟨(.int .u64),0⟩),(204,⟨(.opq 1),0⟩),(206,⟨(.opq 1),0⟩),(208,⟨(.slice ycM),16⟩),(231,⟨(.slice ycM),16⟩),(234,⟨ycM,0⟩),(235,⟨ycM,0⟩),(246,⟨ycM,0⟩),(247,⟨ycM,0⟩)]
noncomputable def firstCells:List Value:=Lib.firstTab.map λz=>Value.int .u8 z
noncomputable def yec:List Value:=(List.range 16).flatMap λi=>[Value.int .u8 (Lib.accLo i),Value.int .u8 (Lib.accHi i)]
noncomputable instance:Gl:=⟨[(0,λcs=>cs=firstCells),(1,λcs=>cs=yec),(2,λcs=>∃ m,cs=[.int .i64 m])]⟩
theorem tabIs:TabOk Tryz.prog tab:=tabB_ok (by kernel_rfl)
theorem mixed:Tryz.prog.follows .mixedOrders=true:=Tryz.checked.mixed
end Go.Proofs.YtcpkhpboemfglaaGreatDoor

namespace Go.Proofs
open Go.Shelf
def Tryz.l146_ren:Go.Shelf.Ren:=⟨fun | 146=>174 | 221=>203 | 268=>216 | 138=>217 | 143=>218 | 195=>224 | 197=>220 | 218=>225 | 219=>226 | 260=>227 | 217=>211 | 225=>230 | 224=>231 | 267=>232 | 266=>223 | 314=>234 | n=>n,fun | 9=>9 | 31=>67 | 3=>3 | 4=>4 | 0=>0 | 105=>243 | 21=>21 | 5=>5 | 46=>198 | 119=>237 | 139=>240 | 138=>239 | 146=>252 | 51=>251 | n=>n,fun | 1=>2 | 3=>0 | 4=>1 | n=>n⟩
theorem Tryz.l146:Go.Proofs.Lays.n146 Tryz.prog Tryz.l146_ren:={
  mixed:=by kernel_rfl
  f138:=Tryz.func217.trans (congrArg some (by kernel_rfl))
  f143:=Tryz.func218.trans (congrArg some (by kernel_rfl))
  f146:=Tryz.func174.trans (congrArg some (by kernel_rfl))
  f195:=Tryz.func224.trans (congrArg some (by kernel_rfl))
  f197:=Tryz.func220.trans (congrArg some (by kernel_rfl))
  f217:=Tryz.func211.trans (congrArg some (by kernel_rfl))
  f218:=Tryz.func225.trans (congrArg some (by kernel_rfl))
  f219:=Tryz.func226.trans (congrArg some (by kernel_rfl))
  f221:=Tryz.func203.trans (congrArg some (by kernel_rfl))
  f224:=Tryz.func231.trans (congrArg some (by kernel_rfl))
  f225:=Tryz.func230.trans (congrArg some (by kernel_rfl))
  f260:=Tryz.func227.trans (congrArg some (by kernel_rfl))
  f266:=Tryz.func223.trans (congrArg some (by kernel_rfl))
  f267:=Tryz.func232.trans (congrArg some (by kernel_rfl))
  f268:=Tryz.func216.trans (congrArg some (by kernel_rfl))
  f314:=Tryz.func234.trans (congrArg some (by kernel_rfl))
  t0:=Tryz.underlying0
  a0:=Tryz.isAgg0
  z0:=Tryz.sizeOf0
  v0:=Tryz.zeroValue0
  t3:=Tryz.underlying3
  a3:=Tryz.isAgg3
  z3:=Tryz.sizeOf3
  v3:=Tryz.zeroValue3
  t4:=Tryz.underlying4
  a4:=Tryz.isAgg4
  z4:=Tryz.sizeOf4
  v4:=Tryz.zeroValue4
  t5:=Tryz.underlying5
  a5:=Tryz.isAgg5
  z5:=Tryz.sizeOf5
  v5:=Tryz.zeroValue5
  t9:=Tryz.underlying9
  a9:=Tryz.isAgg9
  z9:=Tryz.sizeOf9
  v9:=Tryz.zeroValue9
  t21:=Tryz.underlying21
  a21:=Tryz.isAgg21
  z21:=Tryz.sizeOf21
  v21:=Tryz.zeroValue21
  t31:=Tryz.underlying67
  a31:=Tryz.isAgg67
  z31:=Tryz.sizeOf67
  v31:=Tryz.zeroValue67
  t46:=Tryz.underlying198
  a46:=Tryz.isAgg198
  z46:=Tryz.sizeOf198
  v46:=Tryz.zeroValue198
  t51:=Tryz.underlying251
  a51:=Tryz.isAgg251
  z51:=Tryz.sizeOf251
  v51:=Tryz.zeroValue251
  t105:=Tryz.underlying243
  a105:=Tryz.isAgg243
  z105:=Tryz.sizeOf243
  v105:=Tryz.zeroValue243
  t119:=Tryz.underlying237
  a119:=Tryz.isAgg237
  z119:=Tryz.sizeOf237
  t138:=Tryz.underlying239
  a138:=Tryz.isAgg239
  z138:=Tryz.sizeOf239
  v138:=Tryz.zeroValue239
  t139:=Tryz.underlying240
  a139:=Tryz.isAgg240
  z139:=Tryz.sizeOf240
  v139:=Tryz.zeroValue240
  t146:=Tryz.underlying252
  a146:=Tryz.isAgg252
  z146:=Tryz.sizeOf252
  v146:=Tryz.zeroValue252
  g1:=by kernel_rfl
  g3:=by kernel_rfl
  g4:=by kernel_rfl }
def Tryz.l160_ren:Go.Shelf.Ren:=⟨fun | 160=>175 | 232=>205 | 231=>204 | 227=>206 | 234=>208 | 233=>207 | 236=>210 | 235=>209 | 228=>219 | 271=>222 | 151=>221 | 197=>220 | 120=>229 | 152=>228 | 260=>227 | 137=>176 | 119=>233 | 224=>231 | 225=>230 | 217=>211 | 266=>223 | n=>n,fun | 9=>9 | 4=>4 | 3=>3 | 5=>5 | 117=>225 | 116=>224 | 0=>0 | 124=>228 | 21=>21 | 105=>243 | 46=>198 | 119=>237 | 139=>240 | 138=>239 | n=>n,fun | 3=>0 | 4=>1 | n=>n⟩
theorem Tryz.l160:Go.Proofs.Lays.n160 Tryz.prog Tryz.l160_ren:={
  mixed:=by kernel_rfl
  f119:=Tryz.func233.trans (congrArg some (by kernel_rfl))
  f120:=Tryz.func229.trans (congrArg some (by kernel_rfl))
  f137:=Tryz.func176.trans (congrArg some (by kernel_rfl))
  f151:=Tryz.func221.trans (congrArg some (by kernel_rfl))
  f152:=Tryz.func228.trans (congrArg some (by kernel_rfl))
  f160:=Tryz.func175.trans (congrArg some (by kernel_rfl))
  f197:=Tryz.func220.trans (congrArg some (by kernel_rfl))
  f217:=Tryz.func211.trans (congrArg some (by kernel_rfl))
  f224:=Tryz.func231.trans (congrArg some (by kernel_rfl))
  f225:=Tryz.func230.trans (congrArg some (by kernel_rfl))
  f227:=Tryz.func206.trans (congrArg some (by kernel_rfl))
  f228:=Tryz.func219.trans (congrArg some (by kernel_rfl))
  f231:=Tryz.func204.trans (congrArg some (by kernel_rfl))
  f232:=Tryz.func205.trans (congrArg some (by kernel_rfl))
  f233:=Tryz.func207.trans (congrArg some (by kernel_rfl))
  f234:=Tryz.func208.trans (congrArg some (by kernel_rfl))
  f235:=Tryz.func209.trans (congrArg some (by kernel_rfl))
  f236:=Tryz.func210.trans (congrArg some (by kernel_rfl))
  f260:=Tryz.func227.trans (congrArg some (by kernel_rfl))
  f266:=Tryz.func223.trans (congrArg some (by kernel_rfl))
  f271:=Tryz.func222.trans (congrArg some (by kernel_rfl))
  t0:=Tryz.underlying0
  a0:=Tryz.isAgg0
  z0:=Tryz.sizeOf0
  v0:=Tryz.zeroValue0
  t3:=Tryz.underlying3
  a3:=Tryz.isAgg3
  z3:=Tryz.sizeOf3
  v3:=Tryz.zeroValue3
  t4:=Tryz.underlying4
  a4:=Tryz.isAgg4
  z4:=Tryz.sizeOf4
  v4:=Tryz.zeroValue4
  t5:=Tryz.underlying5
  a5:=Tryz.isAgg5
  z5:=Tryz.sizeOf5
  v5:=Tryz.zeroValue5
  t9:=Tryz.underlying9
  a9:=Tryz.isAgg9
  z9:=Tryz.sizeOf9
  v9:=Tryz.zeroValue9
  t21:=Tryz.underlying21
  a21:=Tryz.isAgg21
  z21:=Tryz.sizeOf21
  v21:=Tryz.zeroValue21
  t46:=Tryz.underlying198
  a46:=Tryz.isAgg198
  z46:=Tryz.sizeOf198
  v46:=Tryz.zeroValue198
  t105:=Tryz.underlying243
  a105:=Tryz.isAgg243
  z105:=Tryz.sizeOf243
  v105:=Tryz.zeroValue243
  t116:=Tryz.underlying224
  a116:=Tryz.isAgg224
  z116:=Tryz.sizeOf224
  t117:=Tryz.underlying225
  a117:=Tryz.isAgg225
  z117:=Tryz.sizeOf225
  v117:=Tryz.zeroValue225
  t119:=Tryz.underlying237
  a119:=Tryz.isAgg237
  z119:=Tryz.sizeOf237
  t124:=Tryz.underlying228
  a124:=Tryz.isAgg228
  z124:=Tryz.sizeOf228
  v124:=Tryz.zeroValue228
  t138:=Tryz.underlying239
  a138:=Tryz.isAgg239
  z138:=Tryz.sizeOf239
  v138:=Tryz.zeroValue239
  t139:=Tryz.underlying240
  a139:=Tryz.isAgg240
  z139:=Tryz.sizeOf240
  v139:=Tryz.zeroValue240
  g3:=by kernel_rfl
  g4:=by kernel_rfl }
def Tryz.l196_ren:Go.Shelf.Ren:=⟨fun | 196=>192 | 259=>215 | n=>n,fun | 9=>9 | 4=>4 | 3=>3 | 5=>5 | 12=>12 | 119=>237 | 0=>0 | 46=>198 | 139=>240 | 138=>239 | 53=>31 | n=>n,fun | 3=>0 | 4=>1 | n=>n⟩
theorem Tryz.l196:Go.Proofs.Lays.n196 Tryz.prog Tryz.l196_ren:={
  mixed:=by kernel_rfl
  f196:=Tryz.func192.trans (congrArg some (by kernel_rfl))
  f259:=Tryz.func215.trans (congrArg some (by kernel_rfl))
  t0:=Tryz.underlying0
  a0:=Tryz.isAgg0
  z0:=Tryz.sizeOf0
  v0:=Tryz.zeroValue0
  t3:=Tryz.underlying3
  a3:=Tryz.isAgg3
  z3:=Tryz.sizeOf3
  v3:=Tryz.zeroValue3
  t4:=Tryz.underlying4
  a4:=Tryz.isAgg4
  z4:=Tryz.sizeOf4
  v4:=Tryz.zeroValue4
  t5:=Tryz.underlying5
  a5:=Tryz.isAgg5
  z5:=Tryz.sizeOf5
  v5:=Tryz.zeroValue5
  t9:=Tryz.underlying9
  a9:=Tryz.isAgg9
  z9:=Tryz.sizeOf9
  v9:=Tryz.zeroValue9
  t12:=Tryz.underlying12
  a12:=Tryz.isAgg12
  z12:=Tryz.sizeOf12
  v12:=Tryz.zeroValue12
  t46:=Tryz.underlying198
  a46:=Tryz.isAgg198
  z46:=Tryz.sizeOf198
  v46:=Tryz.zeroValue198
  t53:=Tryz.underlying31
  a53:=Tryz.isAgg31
  z53:=Tryz.sizeOf31
  v53:=Tryz.zeroValue31
  t119:=Tryz.underlying237
  a119:=Tryz.isAgg237
  z119:=Tryz.sizeOf237
  t138:=Tryz.underlying239
  a138:=Tryz.isAgg239
  z138:=Tryz.sizeOf239
  v138:=Tryz.zeroValue239
  t139:=Tryz.underlying240
  a139:=Tryz.isAgg240
  z139:=Tryz.sizeOf240
  v139:=Tryz.zeroValue240
  g3:=by kernel_rfl
  g4:=by kernel_rfl }
def Tryz.l137_ren:Go.Shelf.Ren:=⟨fun | 137=>176 | 217=>211 | 266=>223 | n=>n,fun | 9=>9 | 5=>5 | 3=>3 | n=>n,fun | n=>n⟩
theorem Tryz.l137:Go.Proofs.Lays.n137 Tryz.prog Tryz.l137_ren:={
  mixed:=by kernel_rfl
  f137:=Tryz.func176.trans (congrArg some (by kernel_rfl))
  f217:=Tryz.func211.trans (congrArg some (by kernel_rfl))
  f266:=Tryz.func223.trans (congrArg some (by kernel_rfl))
  t3:=Tryz.underlying3
  a3:=Tryz.isAgg3
  z3:=Tryz.sizeOf3
  v3:=Tryz.zeroValue3
  t5:=Tryz.underlying5
  a5:=Tryz.isAgg5
  z5:=Tryz.sizeOf5
  v5:=Tryz.zeroValue5
  t9:=Tryz.underlying9
  a9:=Tryz.isAgg9
  z9:=Tryz.sizeOf9
  v9:=Tryz.zeroValue9 }
end Go.Proofs
namespace Go.Proofs.YtcpkhpboemfglaaGreatDoor
open Go Go.Va Go.Proofs
theorem acc_get:∀ (i:Nat),i<16→yec[2*i]?=some (Value.int .u8 (Lib.accLo i))∧yec[2*i+1]?=some (Value.int .u8 (Lib.accHi i))
  | 0,_ | 1,_ | 2,_ | 3,_ | 4,_ | 5,_ | 6,_ | 7,_ | 8,_ | 9,_ | 10,_ | 11,_ | 12,_ | 13,_ | 14,_ | 15,_=>⟨rfl,rfl⟩
  | n+16,h=>absurd h (by omega)
theorem utf8Tabs {E:Env}{w:World}(h:GlOk E w):Lib.Utf8Tabs (Tryz.l196_ren.g 3) (Tryz.l196_ren.g 4) w:=by
  obtain⟨_,c0,e0,h0⟩:=h (0,λcs=>cs=firstCells) (by simp[Gl.tab])
  obtain⟨_,c1,e1,h1⟩:=h (1,λcs=>cs=yec) (by simp[Gl.tab])
  have e0:c0=firstCells:=e0
  have e1:c1=yec:=e1
  subst e0 e1
  have h0:=h0.2
  have h1:=h1.2
  refine⟨λc hc => ?_,λi hi => ?_⟩
  · have:=h0 c (by simp[firstCells,Lib.firstTab];exact hc)
    simp[firstCells,Lib.firstTab]at this
    exact this
  · have hl:yec.length=32:=by kernel_rfl
    have a0:=h1 (2*i) (by rw[hl];omega)
    have a1:=h1 (2*i+1) (by rw[hl];omega)
    obtain⟨e0,e1⟩:=acc_get i hi
    rw[List.getElem?_eq_getElem (by rw[hl];omega)]at e0 e1
    simp only[Option.some.injEq]at e0 e1
    simp only[Nat.zero_add]at a0 a1
    rw[e0]at a0
    rw[e1]at a1
    exact⟨a0,a1⟩
theorem maxLen_cell {E:Env}{w:World}(h:GlOk E w):∃ m,w.cell? ⟨Tryz.l146_ren.g 1,0,none⟩=some (.int .i64 m):=by
  obtain⟨_,c,⟨m,e⟩,h2⟩:=h (2,λcs=>∃ m,cs=[.int .i64 m]) (by simp[Gl.tab])
  have e:c=[.int .i64 m]:=e
  subst e
  have:=h2.2 0 (by simp)
  exact⟨m,this⟩
namespace ycQ
abbrev ia:List Ai:=[.dat .str]
abbrev io:List (Nat×Oi):=[(2,.dat .bool)]
noncomputable def f (s:ByteArray):Option (DOut ia io):=if s.size≤9223372036854775807 then some (Lib.validD s.data.toList,()) else none
theorem ok:FnOk Tryz.prog 192 ia io (λv=>f v.1):=by
  refine leaf_ok ⟨Tryz.f192,Tryz.func192,by kernel_rfl,by kernel_rfl⟩ rfl (λ_=>rfl) (λ_=>rfl) (λv u h E w vals hgl hc => ?_)
  obtain⟨x,vs,rfl,h1,h3⟩:=hc
  have h3:vs=[]:=h3
  subst h3
  have h1:x = .string v.1:=V_str.1 h1
  subst h1
  unfold f at h
  split at h
  · next hs=>
    injection h with h
    subst h
    refine (Any.utf8_ValidString Tryz.l196 v.1 w hs (utf8Tabs hgl)).mono ?_
    rintro e w' ⟨rfl,hb⟩
    exact⟨_,rfl,⟨hb.os,hb.tape,hb.output,hb.size,hb.block⟩,λE=>yd7.2 rfl⟩
  · exact absurd h (by simp)
noncomputable def en:Entry:=yaI 192 ia io (λv=>f v.1)
end ycQ
namespace ydS
abbrev ia:List Ai:=[.dat .str,.dat (.int .u8)]
abbrev io:List (Nat×Oi):=[(4,.dat (.int .i64))]
noncomputable def f (s:ByteArray)(c:Int):Option (DOut ia io):=some (Lib.indexByte s.data.toList c.toNat.toUInt8,())
theorem ok:FnOk Tryz.prog 176 ia io (λv=>f v.1 v.2.1):=by
  refine leaf_ok ⟨Tryz.f176,Tryz.func176,by kernel_rfl,by kernel_rfl⟩ rfl (λ_=>rfl) (λ_=>rfl) (λv u h E w vals hgl hc => ?_)
  obtain⟨x,vs,rfl,h1,y,vs',rfl,h2,h3⟩:=hc
  have h3:vs'=[]:=h3
  subst h3
  have h1:x = .string v.1:=V_str.1 h1
  have h2:y = .int .u8 v.2.1:=V_int.1 h2
  subst h1 h2
  injection h with h
  subst h
  refine (Any.strings_IndexByte Tryz.l137 v.1 v.2.1 w).mono ?_
  rintro e w' ⟨rfl,rfl⟩
  exact⟨_,rfl,.refl _,λE=>V_int.2 rfl⟩
noncomputable def en:Entry:=yaI 176 ia io (λv=>f v.1 v.2.1)
end ydS
namespace yeO
abbrev ia:List Ai:=[.dat .str,.dat .str]
abbrev io:List (Nat×Oi):=[(4,.dat .str)]
noncomputable def f (s c:ByteArray):Option (DOut ia io):=if s.size≤9223372036854775807∧c.size<4294967281∧(∀ b∈c.data.toList,b.toNat<128) then some (⟨(Lib.trimS s.data.toList c.data.toList).toArray⟩,()) else none
theorem zero116 (w:World):(zeroValue (Tryz.l160_ren.t 116)).run Tryz.prog w = .ok (.agg (Array.replicate 256 (.bool false))) w:=by
  have h:Tryz.prog.info? (Tryz.l160_ren.t 116)=some ((Tryz.prog.info? (Tryz.l160_ren.t 116)).getD default):=by kernel_rfl
  have h2:((Tryz.prog.info? (Tryz.l160_ren.t 116)).getD default).zero=some (.agg (Array.replicate 256 (.bool false))):=by kernel_rfl
  simp only[zeroValue,Sem.run_bind,Va.run_typeInfo h,Result.andThen_ok,h2,Sem.run_pure]
theorem ok:FnOk Tryz.prog 175 ia io (λv=>f v.1 v.2.1):=by
  refine leaf_ok ⟨Tryz.f175,Tryz.func175,by kernel_rfl,by kernel_rfl⟩ rfl (λ_=>rfl) (λ_=>rfl) (λv u h E w vals hgl hc => ?_)
  obtain⟨x,vs,rfl,h1,y,vs',rfl,h2,h3⟩:=hc
  have h3:vs'=[]:=h3
  subst h3
  have h1:x = .string v.1:=V_str.1 h1
  have h2:y = .string v.2.1:=V_str.1 h2
  subst h1 h2
  unfold f at h
  split at h
  · next hs=>
    injection h with h
    subst h
    refine (Any.strings_Trim_ascii Tryz.l160 zero116 (by kernel_rfl) v.1 v.2.1 w hs.1 hs.2.1 (λj b hj=>hs.2.2 b (List.mem_of_getElem? hj))).mono ?_
    rintro e w' ⟨rfl,hb⟩
    exact⟨_,rfl,⟨hb.os,hb.tape,hb.output,hb.size,hb.block⟩,λE=>V_str.2 rfl⟩
  · exact absurd h (by simp)
noncomputable def en:Entry:=yaI 175 ia io (λv=>f v.1 v.2.1)
end yeO
namespace yer
abbrev ia:List Ai:=[.dat .str,.dat .str]
abbrev io:List (Nat×Oi):=[(4,.val (.r 0 .str))]
noncomputable def f (s sep:ByteArray):Option (DOut ia io):=if s.size<4294967281∧1≤sep.size then some (Lib.splitB sep 0 (Lib.countB s sep) s,()) else none
theorem ok:FnOk Tryz.prog 174 ia io (λv=>f v.1 v.2.1):=by
  refine leaf_row_ok ⟨Tryz.f174,Tryz.func174,by kernel_rfl,by kernel_rfl⟩ rfl (λ_=>rfl) (λv u h E w vals hgl hc => ?_)
  obtain⟨x,vs,rfl,h1,y,vs',rfl,h2,h3⟩:=hc
  have h3:vs'=[]:=h3
  subst h3
  have h1:x = .string v.1:=V_str.1 h1
  have h2:y = .string v.2.1:=V_str.1 h2
  subst h1 h2
  unfold f at h
  split at h
  · next hs=>
    injection h with h
    subst h
    obtain⟨m,hm⟩:=maxLen_cell hgl
    refine (Any.strings_Split Tryz.l146 (by kernel_rfl) v.1 v.2.1 m w hs.1 hm hs.2).mono ?_
    rintro e w' ⟨rfl,rfl⟩
    have hl:=Lib.splitB_all v.2.1 hs.2 0 _ v.1 rfl
    refine⟨_,_,by rw[hl],rfl,λS w' => ?_⟩
    have:∀ l:List ByteArray,RdL (Rd S w' .str) l (l.map Value.string):=by
      intro l
      induction l with
      | nil=>rfl
      | cons x l ih=>exact⟨[.string x],l.map Value.string,rfl,rfl,ih⟩
    exact this _
  · exact absurd h (by simp)
noncomputable def en:Entry:=yaI 174 ia io (λv=>f v.1 v.2.1)
end yer
end Go.Proofs.YtcpkhpboemfglaaGreatDoor

namespace Go.Proofs.YtcpkhpboemfglaaGreatDoor
open Go Go.Va Go.Proofs
namespace ybk
abbrev ia:List Ai:=[.dat .str]
abbrev io:List (Nat×Oi):=[(2,.dat .bool)]
abbrev R:Type:=DOut ia io
noncomputable def X (n:Nat):Ctx:=⟨⟨tab,[ycQ.en],0,[]⟩,21,bnOf 0 ia⟩
abbrev g1:List Si:=[.dat 0 .str,.val 6 (.r 200600 (.int .u8)),.dat 7 (.int .i64),.dat 8 (.int .i64)]
abbrev g2:List Si:=[.dat 0 .str]
noncomputable def T:CT:=(.s .o (.s (.s .o (.b (.l g1 .o))) (.r g2 .o)))
noncomputable def J1 (n:Nat)(m:Nat):ByteArray×(List (Int))×Int×Int×Unit→Option R:=jL (X n) n T (yaX Tryz.f165) (endK ia io) g1 [1,0,1,0] [] m
noncomputable def J2 (n:Nat):ByteArray×Unit→Option R:=jR (X n) n T (yaX Tryz.f165) (endK ia io) g2 [1,1] []
noncomputable def f (n:Nat)(s_:ByteArray):Option R:=fRun (X n) n T Tryz.f165 ia io (s_,())
theorem e0 (n:Nat)(s_:ByteArray):f n s_ =
  J1 n n (s_,(ycN s_),(((ycN s_).length:Nat):Int),0,()):=(yaj _).trans (by kernel_rfl)
theorem e1 (n m:Nat) (s_:ByteArray) (t6:List (Int)) (t7:Int) (t8:Int):J1 n (m+1) (s_,t6,t7,t8,()) =
  bIf ((hide (decide (t8<t7)))) (
    gIf (0≤t8∧t8<((t6.length:Nat):Int)) (
      bIf ((hide (decide ((List.getD t6 (0+t8.toNat) 0)<(32:Int))))) (
        some (false,())
        ) (
        bIf ((hide ((List.getD t6 (0+t8.toNat) 0)==(127:Int)))) (
          some (false,())
          ) (
          J1 n m (s_,t6,t7,(IntKind.i64.wrap (t8+(1:Int))),())
          )
        )
      )
    ) (
    J2 n (s_,())
    ):=(yaj _).trans (by kernel_rfl)
theorem e2 (n:Nat)(s_:ByteArray):J2 n (s_,()) =
  bnd (ycQ.f s_) λu1=>
  some (u1.1,()):=(yaj _).trans (by kernel_rfl)
theorem phi (n:Nat):∀ e∈(X n).c.Φ,EntryOk Tryz.prog e:=yah (yab (ycQ.ok)) (yaz)
theorem ok (n:Nat):FnOk Tryz.prog 165 ia io (fRun (X n) n T Tryz.f165 ia io):=yaM mixed tabIs (phi n) Tryz.func165 (by kernel_rfl) rfl
noncomputable def en (n:Nat):Entry:=yaI 165 ia io (fRun (X n) n T Tryz.f165 ia io)
end ybk
end Go.Proofs.YtcpkhpboemfglaaGreatDoor

namespace Go.Proofs.YtcpkhpboemfglaaGreatDoor
open Go Go.Va Go.Proofs
namespace yaH
abbrev ia:List Ai:=[.dat .str]
abbrev io:List (Nat×Oi):=[(2,.dat .bool)]
abbrev R:Type:=DOut ia io
noncomputable def X (n:Nat):Ctx:=⟨⟨tab,[],0,[]⟩,109,bnOf 0 ia⟩
abbrev g1:List Si:=[.dat 0 .str,.dat 3 (.int .i64)]
abbrev g2:List Si:=[.dat 0 .str,.dat 3 (.int .i64),.dat 4 (.int .i64),.dat 21 .bool]
abbrev g3:List Si:=[.dat 0 .str,.dat 3 (.int .i64),.dat 4 (.int .i64),.dat 30 .bool]
abbrev g4:List Si:=[.dat 0 .str,.dat 3 (.int .i64),.dat 4 (.int .i64),.dat 39 .bool]
abbrev g5:List Si:=[.dat 0 .str,.dat 3 (.int .i64),.dat 4 (.int .i64),.dat 5 (.int .i64),.dat 6 (.int .i64),.dat 7 (.int .i64)]
abbrev g6:List Si:=[.dat 0 .str,.dat 3 (.int .i64),.dat 5 (.int .i64),.dat 6 (.int .i64),.dat 7 (.int .i64)]
abbrev g7:List Si:=[.dat 0 .str,.dat 3 (.int .i64),.dat 5 (.int .i64),.dat 6 (.int .i64),.dat 7 (.int .i64),.dat 8 (.int .i64)]
abbrev g8:List Si:=[.dat 0 .str,.dat 3 (.int .i64),.dat 5 (.int .i64),.dat 6 (.int .i64),.dat 7 (.int .i64),.dat 8 (.int .i64)]
abbrev g9:List Si:=[.dat 0 .str,.dat 3 (.int .i64),.dat 5 (.int .i64),.dat 6 (.int .i64),.dat 7 (.int .i64),.dat 8 (.int .i64)]
abbrev g10:List Si:=[.dat 0 .str,.dat 3 (.int .i64),.dat 5 (.int .i64),.dat 6 (.int .i64),.dat 7 (.int .i64)]
abbrev g11:List Si:=[.dat 0 .str,.dat 3 (.int .i64),.dat 5 (.int .i64)]
abbrev g12:List Si:=[]
noncomputable def T:CT:=(.s .o (.s (.s .o (.b (.l g1 (.s .o (.b (.s .o (.s .o (.s (.b (.s .o (.c .o (.s .o (.r g2 (.c .o (.s .o (.r g3 (.c .o (.s .o (.r g4 .o))))))))))) (.r g5 (.s .o (.r g6 (.s (.s .o (.b (.l g7 (.s .o (.s (.b (.s .o (.r g8 .o))) (.r g9 .o)))))) (.r g10 (.s .o (.r g11 .o))))))))))))))) (.r g12 .o)))
noncomputable def J1 (n:Nat)(m:Nat):ByteArray×Int×Unit→Option R:=jL (X n) n T (yaX Tryz.f77) (endK ia io) g1 [1,0,1,0] [] m
noncomputable def J2 (n m1:Nat):ByteArray×Int×Int×Bool×Unit→Option R:=jR (X n) n T (yaX Tryz.f77) (endK ia io) g2 [1,0,1,0,0,1,0,1,1,0,0,1,1,1] [m1]
noncomputable def J3 (n m1:Nat):ByteArray×Int×Int×Bool×Unit→Option R:=jR (X n) n T (yaX Tryz.f77) (endK ia io) g3 [1,0,1,0,0,1,0,1,1,0,0,1,1,1,1,1] [m1]
noncomputable def J4 (n m1:Nat):ByteArray×Int×Int×Bool×Unit→Option R:=jR (X n) n T (yaX Tryz.f77) (endK ia io) g4 [1,0,1,0,0,1,0,1,1,0,0,1,1,1,1,1,1,1] [m1]
noncomputable def J5 (n m1:Nat):ByteArray×Int×Int×Int×Int×Int×Unit→Option R:=jR (X n) n T (yaX Tryz.f77) (endK ia io) g5 [1,0,1,0,0,1,0,1,1,1] [m1]
noncomputable def J6 (n m1:Nat):ByteArray×Int×Int×Int×Int×Unit→Option R:=jR (X n) n T (yaX Tryz.f77) (endK ia io) g6 [1,0,1,0,0,1,0,1,1,1,1] [m1]
noncomputable def J7 (n m1:Nat)(m:Nat):ByteArray×Int×Int×Int×Int×Int×Unit→Option R:=jL (X n) n T (yaX Tryz.f77) (endK ia io) g7 [1,0,1,0,0,1,0,1,1,1,1,0,1,0] [m1] m
noncomputable def J8 (n m1 m7:Nat):ByteArray×Int×Int×Int×Int×Int×Unit→Option R:=jR (X n) n T (yaX Tryz.f77) (endK ia io) g8 [1,0,1,0,0,1,0,1,1,1,1,0,1,0,0,1,0,0,1] [m1,m7]
noncomputable def J9 (n m1 m7:Nat):ByteArray×Int×Int×Int×Int×Int×Unit→Option R:=jR (X n) n T (yaX Tryz.f77) (endK ia io) g9 [1,0,1,0,0,1,0,1,1,1,1,0,1,0,0,1,1] [m1,m7]
noncomputable def J10 (n m1:Nat):ByteArray×Int×Int×Int×Int×Unit→Option R:=jR (X n) n T (yaX Tryz.f77) (endK ia io) g10 [1,0,1,0,0,1,0,1,1,1,1,1] [m1]
noncomputable def J11 (n m1:Nat):ByteArray×Int×Int×Unit→Option R:=jR (X n) n T (yaX Tryz.f77) (endK ia io) g11 [1,0,1,0,0,1,0,1,1,1,1,1,1] [m1]
noncomputable def J12 (n:Nat):Unit→Option R:=jR (X n) n T (yaX Tryz.f77) (endK ia io) g12 [1,1] []
noncomputable def f (n:Nat)(s_:ByteArray):Option R:=fRun (X n) n T Tryz.f77 ia io (s_,())
theorem e0 (n:Nat)(s_:ByteArray):f n s_ =
  J1 n n (s_,0,()):=(yaj _).trans (by kernel_rfl)
theorem e1 (n m:Nat) (s_:ByteArray) (at_:Int):J1 n (m+1) (s_,at_,()) =
  bIf ((hide (decide (at_<(s_.size:Int))))) (
    gIf (0≤at_∧at_<(s_.size:Int)) (
      bIf ((hide (decide ((IntKind.i64.wrap (bt s_ at_))<(128:Int))))) (
        J5 n m (s_,at_,(IntKind.i64.wrap (bt s_ at_)),1,(IntKind.i64.wrap (bt s_ at_)),0,())
        ) (
        bIf ((hide (decide ((IntKind.i64.wrap (bt s_ at_))≥(192:Int))))) (
          J2 n m (s_,at_,(IntKind.i64.wrap (bt s_ at_)),(hide (decide ((IntKind.i64.wrap (bt s_ at_))<(224:Int)))),())
          ) (
          J2 n m (s_,at_,(IntKind.i64.wrap (bt s_ at_)),false,())
          )
        )
      )
    ) (
    J12 n (())
    ):=(yaj _).trans (by kernel_rfl)
theorem e2 (n m1:Nat)(s_:ByteArray)(at_:Int)(b:Int)(t21:Bool):J2 n m1 (s_,at_,b,t21,()) =
  bIf (t21) (
    J5 n m1 (s_,at_,b,2,(IntKind.i64.wrap (b-(192:Int))),128,())
    ) (
    bIf ((hide (decide (b≥(224:Int))))) (
      J3 n m1 (s_,at_,b,(hide (decide (b<(240:Int)))),())
      ) (
      J3 n m1 (s_,at_,b,false,())
      )
    ):=(yaj _).trans (by kernel_rfl)
theorem e3 (n m1:Nat)(s_:ByteArray)(at_:Int)(b:Int)(t30:Bool):J3 n m1 (s_,at_,b,t30,()) =
  bIf (t30) (
    J5 n m1 (s_,at_,b,3,(IntKind.i64.wrap (b-(224:Int))),2048,())
    ) (
    bIf ((hide (decide (b≥(240:Int))))) (
      J4 n m1 (s_,at_,b,(hide (decide (b<(248:Int)))),())
      ) (
      J4 n m1 (s_,at_,b,false,())
      )
    ):=(yaj _).trans (by kernel_rfl)
theorem e4 (n m1:Nat)(s_:ByteArray)(at_:Int)(b:Int)(t39:Bool):J4 n m1 (s_,at_,b,t39,()) =
  bIf (t39) (
    J5 n m1 (s_,at_,b,4,(IntKind.i64.wrap (b-(240:Int))),65536,())
    ) (
    some (false,())
    ):=(yaj _).trans (by kernel_rfl)
theorem e5 (n m1:Nat)(s_:ByteArray)(at_:Int)(b:Int)(n_:Int)(r:Int)(least:Int):J5 n m1 (s_,at_,b,n_,r,least,()) =
  bIf ((hide (decide (b<(32:Int))))) (
    some (false,())
    ) (
    bIf ((hide (b==(127:Int)))) (
      some (false,())
      ) (
      J6 n m1 (s_,at_,n_,r,least,())
      )
    ):=(yaj _).trans (by kernel_rfl)
theorem e6 (n m1:Nat)(s_:ByteArray)(at_:Int)(n_:Int)(r:Int)(least:Int):J6 n m1 (s_,at_,n_,r,least,()) =
  J7 n m1 n (s_,at_,n_,r,least,1,()):=(yaj _).trans (by kernel_rfl)
theorem e7 (n m1 m:Nat) (s_:ByteArray) (at_:Int) (n_:Int) (r:Int) (least:Int) (i:Int):J7 n m1 (m+1) (s_,at_,n_,r,least,i,()) =
  bIf ((hide (decide (i<n_)))) (
    bIf ((hide (decide ((IntKind.i64.wrap (at_+i))≥(s_.size:Int))))) (
      some (false,())
      ) (
      gIf (0≤(IntKind.i64.wrap (at_+i))∧(IntKind.i64.wrap (at_+i))<(s_.size:Int)) (
        bIf ((hide (decide ((bt s_ (IntKind.i64.wrap (at_+i)))<(128:Int))))) (
          some (false,())
          ) (
          gIf (0≤(IntKind.i64.wrap (at_+i))∧(IntKind.i64.wrap (at_+i))<(s_.size:Int)) (
            bIf ((hide (decide ((bt s_ (IntKind.i64.wrap (at_+i)))≥(192:Int))))) (
              some (false,())
              ) (
              J8 n m1 m (s_,at_,n_,r,least,i,())
              )
            )
          )
        )
      )
    ) (
    J10 n m1 (s_,at_,n_,r,least,())
    ):=(yaj _).trans (by kernel_rfl)
theorem e8 (n m1 m7:Nat)(s_:ByteArray)(at_:Int)(n_:Int)(r:Int)(least:Int)(i:Int):J8 n m1 m7 (s_,at_,n_,r,least,i,()) =
  gIf (0≤(IntKind.i64.wrap (at_+i))∧(IntKind.i64.wrap (at_+i))<(s_.size:Int)) (
    J9 n m1 m7 (s_,at_,n_,(IntKind.i64.wrap ((IntKind.i64.wrap ((IntKind.i64.wrap (r*(64:Int)))+(IntKind.i64.wrap (bt s_ (IntKind.i64.wrap (at_+i))))))-(128:Int))),least,i,())
    ):=(yaj _).trans (by kernel_rfl)
theorem e9 (n m1 m7:Nat)(s_:ByteArray)(at_:Int)(n_:Int)(r:Int)(least:Int)(i:Int):J9 n m1 m7 (s_,at_,n_,r,least,i,()) =
  J7 n m1 m7 (s_,at_,n_,r,least,(IntKind.i64.wrap (i+(1:Int))),()):=(yaj _).trans (by kernel_rfl)
theorem e10 (n m1:Nat) (s_:ByteArray) (at_:Int) (n_:Int) (r:Int) (least:Int):J10 n m1 (s_,at_,n_,r,least,()) =
  bIf ((hide (decide (r<least)))) (
    some (false,())
    ) (
    bIf ((hide (decide (r>(1114111:Int))))) (
      some (false,())
      ) (
      bIf ((hide (decide (r≥(55296:Int))))) (
        bIf ((hide (decide (r≤(57343:Int))))) (
          some (false,())
          ) (
          J11 n m1 (s_,at_,n_,())
          )
        ) (
        J11 n m1 (s_,at_,n_,())
        )
      )
    ):=(yaj _).trans (by kernel_rfl)
theorem e11 (n m1:Nat)(s_:ByteArray)(at_:Int)(n_:Int):J11 n m1 (s_,at_,n_,()) =
  J1 n m1 (s_,(IntKind.i64.wrap (at_+n_)),()):=(yaj _).trans (by kernel_rfl)
theorem e12 (n:Nat):J12 n (()) =
  some (true,()):=(yaj _).trans (by kernel_rfl)
theorem phi (n:Nat):∀ e∈(X n).c.Φ,EntryOk Tryz.prog e:=yaz
theorem ok (n:Nat):FnOk Tryz.prog 77 ia io (fRun (X n) n T Tryz.f77 ia io):=yaM mixed tabIs (phi n) Tryz.func77 (by kernel_rfl) rfl
noncomputable def en (n:Nat):Entry:=yaI 77 ia io (fRun (X n) n T Tryz.f77 ia io)
end yaH
end Go.Proofs.YtcpkhpboemfglaaGreatDoor

namespace Go.Proofs.YtcpkhpboemfglaaGreatDoor
open Go Go.Va Go.Proofs
namespace ydi
abbrev ia:List Ai:=[.dat (.int .i64)]
abbrev io:List (Nat×Oi):=[(2,.dat (.int .i64))]
abbrev R:Type:=DOut ia io
noncomputable def X (n:Nat):Ctx:=⟨⟨tab,[],0,[]⟩,6,bnOf 0 ia⟩
noncomputable def T:CT := .o
noncomputable def f (n:Nat)(t:Int):Option R:=fRun (X n) n T Tryz.f42 ia io (t,())
theorem e0 (n:Nat)(t:Int):f n t =
  some ((maxI .i64 (-62135596800) (minI .i64 t 253402300799)),()):=(yaj _).trans (by kernel_rfl)
theorem phi (n:Nat):∀ e∈(X n).c.Φ,EntryOk Tryz.prog e:=yaz
theorem ok (n:Nat):FnOk Tryz.prog 42 ia io (fRun (X n) n T Tryz.f42 ia io):=yaM mixed tabIs (phi n) Tryz.func42 (by kernel_rfl) rfl
noncomputable def en (n:Nat):Entry:=yaI 42 ia io (fRun (X n) n T Tryz.f42 ia io)
end ydi
end Go.Proofs.YtcpkhpboemfglaaGreatDoor

namespace Go.Proofs.YtcpkhpboemfglaaGreatDoor
open Go Go.Va Go.Proofs
namespace ydF
abbrev ia:List Ai:=[.dat (.int .i64)]
abbrev io:List (Nat×Oi):=[(2,.dat (.int .i64))]
abbrev R:Type:=DOut ia io
noncomputable def X (n:Nat):Ctx:=⟨⟨tab,[],0,[]⟩,8,bnOf 0 ia⟩
noncomputable def T:CT := .o
noncomputable def f (n:Nat)(t:Int):Option R:=fRun (X n) n T Tryz.f46 ia io (t,())
theorem e0 (n:Nat)(t:Int):f n t =
  bIf ((hide (decide (t<(-62135596800:Int))))) (
    some ((-62135596800),())
    ) (
    bIf ((hide (decide (t>(253402300799:Int))))) (
      some (253402300799,())
      ) (
      some (t,())
      )
    ):=(yaj _).trans (by kernel_rfl)
theorem phi (n:Nat):∀ e∈(X n).c.Φ,EntryOk Tryz.prog e:=yaz
theorem ok (n:Nat):FnOk Tryz.prog 46 ia io (fRun (X n) n T Tryz.f46 ia io):=yaM mixed tabIs (phi n) Tryz.func46 (by kernel_rfl) rfl
noncomputable def en (n:Nat):Entry:=yaI 46 ia io (fRun (X n) n T Tryz.f46 ia io)
end ydF
end Go.Proofs.YtcpkhpboemfglaaGreatDoor

namespace Go.Proofs.YtcpkhpboemfglaaGreatDoor
open Go Go.Va Go.Proofs
namespace yc8
abbrev ia:List Ai:=[.dat yaT]
abbrev io:List (Nat×Oi):=[(2,.dat .bool)]
abbrev R:Type:=DOut ia io
noncomputable def X (n:Nat):Ctx:=⟨⟨tab,[ydi.en n],0,[]⟩,19,bnOf 0 ia⟩
abbrev g1:List Si:=[.ref 1 1 yaT,.dat 10 .bool,.box 1 (.d yaT)]
noncomputable def T:CT:=(.s .o (.s (.s .o (.b (.s .o (.c .o (.s .o (.r g1 .o)))))) .o))
noncomputable def J1 (n:Nat):Bool×yan×Unit→Option R:=jR (X n) n T (yaX Tryz.f128) (endK ia io) g1 [1,0,1,0,1,1,1] []
noncomputable def f (n:Nat)(l:yan):Option R:=fRun (X n) n T Tryz.f128 ia io (l,())
theorem e0 (n:Nat)(l:yan):f n l =
  bIf ((hide (l.1==(0:Int)))) (
    some ((hide (l.2.1==(0:Int))),())
    ) (
    bIf ((hide (l.1==(1:Int)))) (
      J1 n (true,l,())
      ) (
      J1 n ((hide (l.1==(2:Int))),l,())
      )
    ):=(yaj _).trans (by kernel_rfl)
theorem e1 (n:Nat)(t10:Bool)(l:yan):J1 n (t10,l,()) =
  bIf (t10) (
    bnd (ydi.f n l.2.1) λu1=>
    some ((hide (l.2.1==u1.1)),())
    ) (
    some (false,())
    ):=(yaj _).trans (by kernel_rfl)
theorem phi (n:Nat):∀ e∈(X n).c.Φ,EntryOk Tryz.prog e:=yah (yab (ydi.ok n)) (yaz)
theorem ok (n:Nat):FnOk Tryz.prog 128 ia io (fRun (X n) n T Tryz.f128 ia io):=yaM mixed tabIs (phi n) Tryz.func128 (by kernel_rfl) rfl
noncomputable def en (n:Nat):Entry:=yaI 128 ia io (fRun (X n) n T Tryz.f128 ia io)
end yc8
end Go.Proofs.YtcpkhpboemfglaaGreatDoor

namespace Go.Proofs.YtcpkhpboemfglaaGreatDoor
open Go Go.Va Go.Proofs
namespace ydG
abbrev ia:List Ai:=[.dat yaT]
abbrev io:List (Nat×Oi):=[(2,.dat .bool)]
abbrev R:Type:=DOut ia io
noncomputable def X (n:Nat):Ctx:=⟨⟨tab,[ydF.en n],0,[]⟩,25,bnOf 0 ia⟩
noncomputable def T:CT := .o
noncomputable def f (n:Nat)(l:yan):Option R:=fRun (X n) n T Tryz.f52 ia io (l,())
theorem e0 (n:Nat) (l:yan):f n l =
  bIf ((hide (l.1==(0:Int)))) (
    some ((hide (l.2.1==(0:Int))),())
    ) (
    bIf ((hide (l.1==(1:Int)))) (
      bnd (ydF.f n l.2.1) λu1=>
      some ((hide (u1.1==l.2.1)),())
      ) (
      bIf ((hide (l.1==(2:Int)))) (
        bnd (ydF.f n l.2.1) λu2=>
        some ((hide (u2.1==l.2.1)),())
        ) (
        some (false,())
        )
      )
    ):=(yaj _).trans (by kernel_rfl)
theorem phi (n:Nat):∀ e∈(X n).c.Φ,EntryOk Tryz.prog e:=yah (yab (ydF.ok n)) (yaz)
theorem ok (n:Nat):FnOk Tryz.prog 52 ia io (fRun (X n) n T Tryz.f52 ia io):=yaM mixed tabIs (phi n) Tryz.func52 (by kernel_rfl) rfl
noncomputable def en (n:Nat):Entry:=yaI 52 ia io (fRun (X n) n T Tryz.f52 ia io)
end ydG
end Go.Proofs.YtcpkhpboemfglaaGreatDoor

namespace Go.Proofs.YtcpkhpboemfglaaGreatDoor
open Go Go.Va Go.Proofs
namespace yew
abbrev ia:List Ai:=[.dat yax]
abbrev io:List (Nat×Oi):=[(2,.dat .bool)]
abbrev R:Type:=DOut ia io
noncomputable def X (n:Nat):Ctx:=⟨⟨tab,[ybk.en n],0,[]⟩,28,bnOf 0 ia⟩
noncomputable def T:CT := .o
noncomputable def f (n:Nat)(t:yak):Option R:=fRun (X n) n T Tryz.f183 ia io (t,())
theorem e0 (n:Nat) (t:yak):f n t =
  bIf ((hide (!eqS t.1 (⟨#[]⟩:ByteArray)))) (
    bIf ((hide (decide ((t.1.size:Int)≤(64:Int))))) (
      bIf ((hide (decide ((t.2.1.size:Int)≤(64:Int))))) (
        bnd (ybk.f n t.1) λu1=>
        bIf (u1.1) (
          bnd (ybk.f n t.2.1) λu2=>
          some (u2.1,())
          ) (
          some (false,())
          )
        ) (
        some (false,())
        )
      ) (
      some (false,())
      )
    ) (
    some (false,())
    ):=(yaj _).trans (by kernel_rfl)
theorem phi (n:Nat):∀ e∈(X n).c.Φ,EntryOk Tryz.prog e:=yah (yab (ybk.ok n)) (yaz)
theorem ok (n:Nat):FnOk Tryz.prog 183 ia io (fRun (X n) n T Tryz.f183 ia io):=yaM mixed tabIs (phi n) Tryz.func183 (by kernel_rfl) rfl
noncomputable def en (n:Nat):Entry:=yaI 183 ia io (fRun (X n) n T Tryz.f183 ia io)
end yew
end Go.Proofs.YtcpkhpboemfglaaGreatDoor

namespace Go.Proofs.YtcpkhpboemfglaaGreatDoor
open Go Go.Va Go.Proofs
namespace ych
abbrev ia:List Ai:=[.dat (.slice yax)]
abbrev io:List (Nat×Oi):=[(2,.dat .bool)]
abbrev R:Type:=DOut ia io
noncomputable def X (n:Nat):Ctx:=⟨⟨tab,[yew.en n],0,[]⟩,34,bnOf 0 ia⟩
abbrev g1:List Si:=[.dat 0 (.slice yax),.dat 8 (.slice yax),.dat 9 (.int .i64),.dat 10 (.int .i64)]
abbrev g2:List Si:=[]
noncomputable def T:CT:=(.s .o (.s .o (.s (.s .o (.b (.l g1 .o))) (.r g2 .o))))
noncomputable def J1 (n:Nat)(m:Nat):(List (yak))×(List (yak))×Int×Int×Unit→Option R:=jL (X n) n T (yaX Tryz.f129) (endK ia io) g1 [1,1,0,1,0] [] m
noncomputable def J2 (n:Nat):Unit→Option R:=jR (X n) n T (yaX Tryz.f129) (endK ia io) g2 [1,1,1] []
noncomputable def f (n:Nat)(list:List (yak)):Option R:=fRun (X n) n T Tryz.f129 ia io (list,())
theorem e0 (n:Nat)(list:List (yak)):f n list =
  bIf ((hide (decide (((list.length:Nat):Int)>(8:Int))))) (
    some (false,())
    ) (
    J1 n n (list,list,((list.length:Nat):Int),0,())
    ):=(yaj _).trans (by kernel_rfl)
theorem e1 (n m:Nat) (list:List (yak)) (t8:List (yak)) (t9:Int) (t10:Int):J1 n (m+1) (list,t8,t9,t10,()) =
  bIf ((hide (decide (t10<t9)))) (
    gIf (0≤t10∧t10<((t8.length:Nat):Int)) (
      bnd (yew.f n (List.getD t8 t10.toNat (Va.dflt yax))) λu1=>
      bIf ((!u1.1)) (
        some (false,())
        ) (
        bIf ((hide (decide (t10>(0:Int))))) (
          gIf (0≤(IntKind.i64.wrap (t10-(1:Int)))∧(IntKind.i64.wrap (t10-(1:Int)))<((list.length:Nat):Int)) (
            bIf ((hide (!ltS ((List.getD list ((IntKind.i64.wrap (t10-(1:Int))).toNat) (Va.dflt yax)).1) ((List.getD t8 t10.toNat (Va.dflt yax)).1)))) (
              some (false,())
              ) (
              J1 n m (list,t8,t9,(IntKind.i64.wrap (t10+(1:Int))),())
              )
            )
          ) (
          J1 n m (list,t8,t9,(IntKind.i64.wrap (t10+(1:Int))),())
          )
        )
      )
    ) (
    J2 n (())
    ):=(yaj _).trans (by kernel_rfl)
theorem e2 (n:Nat):J2 n (()) =
  some (true,()):=(yaj _).trans (by kernel_rfl)
theorem phi (n:Nat):∀ e∈(X n).c.Φ,EntryOk Tryz.prog e:=yah (yab (yew.ok n)) (yaz)
theorem ok (n:Nat):FnOk Tryz.prog 129 ia io (fRun (X n) n T Tryz.f129 ia io):=yaM mixed tabIs (phi n) Tryz.func129 (by kernel_rfl) rfl
noncomputable def en (n:Nat):Entry:=yaI 129 ia io (fRun (X n) n T Tryz.f129 ia io)
end ych
end Go.Proofs.YtcpkhpboemfglaaGreatDoor

namespace Go.Proofs.YtcpkhpboemfglaaGreatDoor
open Go Go.Va Go.Proofs
namespace ybV
abbrev ia:List Ai:=[.dat (.slice yax)]
abbrev io:List (Nat×Oi):=[(2,.dat .bool)]
abbrev R:Type:=DOut ia io
noncomputable def X (n:Nat):Ctx:=⟨⟨tab,[yaH.en n],0,[]⟩,72,bnOf 0 ia⟩
abbrev g1:List Si:=[.dat 0 (.slice yax),.dat 3 (.int .i64)]
abbrev g2:List Si:=[.dat 0 (.slice yax),.dat 3 (.int .i64)]
abbrev g3:List Si:=[.dat 0 (.slice yax),.dat 3 (.int .i64)]
abbrev g4:List Si:=[]
noncomputable def T:CT:=(.s .o (.s .o (.s (.s .o (.b (.l g1 (.s .o (.s (.b (.s .o (.r g2 .o))) (.r g3 .o)))))) (.r g4 .o))))
noncomputable def J1 (n:Nat)(m:Nat):(List (yak))×Int×Unit→Option R:=jL (X n) n T (yaX Tryz.f53) (endK ia io) g1 [1,1,0,1,0] [] m
noncomputable def J2 (n m1:Nat):(List (yak))×Int×Unit→Option R:=jR (X n) n T (yaX Tryz.f53) (endK ia io) g2 [1,1,0,1,0,0,1,0,0,1] [m1]
noncomputable def J3 (n m1:Nat):(List (yak))×Int×Unit→Option R:=jR (X n) n T (yaX Tryz.f53) (endK ia io) g3 [1,1,0,1,0,0,1,1] [m1]
noncomputable def J4 (n:Nat):Unit→Option R:=jR (X n) n T (yaX Tryz.f53) (endK ia io) g4 [1,1,1] []
noncomputable def f (n:Nat)(l:List (yak)):Option R:=fRun (X n) n T Tryz.f53 ia io (l,())
theorem e0 (n:Nat)(l:List (yak)):f n l =
  bIf ((hide (decide (((l.length:Nat):Int)>(8:Int))))) (
    some (false,())
    ) (
    J1 n n (l,0,())
    ):=(yaj _).trans (by kernel_rfl)
theorem e1 (n m : Nat) (l:List (yak)) (i:Int):J1 n (m+1) (l,i,()) =
  bIf ((hide (decide (i < ((l.length:Nat):Int))))) (
    gIf (0≤i∧i<((l.length:Nat):Int)) (
      bIf ((hide (decide ((((List.getD l i.toNat (Va.dflt yax)).1).size:Int)<(1:Int))))) (
        some (false,())
        ) (
        gIf (0≤i∧i<((l.length:Nat):Int)) (
          bIf ((hide (decide ((((List.getD l i.toNat (Va.dflt yax)).1).size:Int)>(64:Int))))) (
            some (false,())
            ) (
            gIf (0≤i∧i<((l.length:Nat):Int)) (
              bIf ((hide (decide (((((List.getD l i.toNat (Va.dflt yax)).2).1).size:Int)>(64:Int))))) (
                some (false,())
                ) (
                gIf (0≤i∧i<((l.length:Nat):Int)) (
                  bnd (yaH.f n ((List.getD l i.toNat (Va.dflt yax)).1)) λu1=>
                  bIf ((!u1.1)) (
                    some (false,())
                    ) (
                    gIf (0≤i∧i<((l.length:Nat):Int)) (
                      bnd (yaH.f n (((List.getD l i.toNat (Va.dflt yax)).2).1)) λu2=>
                      bIf ((!u2.1)) (
                        some (false,())
                        ) (
                        J2 n m (l,i,())
                        )
                      )
                    )
                  )
                )
              )
            )
          )
        )
      )
    ) (
    J4 n (())
    ):=(yaj _).trans (by kernel_rfl)
theorem e2 (n m1:Nat) (l:List (yak)) (i:Int):J2 n m1 (l,i,()) =
  bIf ((hide (decide (i>(0:Int))))) (
    gIf (0≤i∧i<((l.length:Nat):Int)) (
      gIf (0≤(IntKind.i64.wrap (i-(1:Int)))∧(IntKind.i64.wrap (i-(1:Int)))<((l.length:Nat):Int)) (
        bIf ((hide (ltS ((List.getD l i.toNat (Va.dflt yax)).1) ((List.getD l ((IntKind.i64.wrap (i-(1:Int))).toNat) (Va.dflt yax)).1)||eqS ((List.getD l i.toNat (Va.dflt yax)).1) ((List.getD l ((IntKind.i64.wrap (i-(1:Int))).toNat) (Va.dflt yax)).1)))) (
          some (false,())
          ) (
          J3 n m1 (l,i,())
          )
        )
      )
    ) (
    J3 n m1 (l,i,())
    ):=(yaj _).trans (by kernel_rfl)
theorem e3 (n m1:Nat)(l:List (yak))(i:Int):J3 n m1 (l,i,()) =
  J1 n m1 (l,(IntKind.i64.wrap (i+(1:Int))),()):=(yaj _).trans (by kernel_rfl)
theorem e4 (n:Nat):J4 n (()) =
  some (true,()):=(yaj _).trans (by kernel_rfl)
theorem phi (n:Nat):∀ e∈(X n).c.Φ,EntryOk Tryz.prog e:=yah (yab (yaH.ok n)) (yaz)
theorem ok (n:Nat):FnOk Tryz.prog 53 ia io (fRun (X n) n T Tryz.f53 ia io):=yaM mixed tabIs (phi n) Tryz.func53 (by kernel_rfl) rfl
noncomputable def en (n:Nat):Entry:=yaI 53 ia io (fRun (X n) n T Tryz.f53 ia io)
end ybV
end Go.Proofs.YtcpkhpboemfglaaGreatDoor

namespace Go.Proofs.YtcpkhpboemfglaaGreatDoor
open Go Go.Va Go.Proofs
namespace ycj
abbrev ia:List Ai:=[.dat (.slice yax),.dat (.slice yax)]
abbrev io:List (Nat×Oi):=[(4,.dat .bool)]
abbrev R:Type:=DOut ia io
noncomputable def X (n:Nat):Ctx:=⟨⟨tab,[],0,[]⟩,26,bnOf 0 ia⟩
abbrev g1:List Si:=[.dat 0 (.slice yax),.dat 1 (.slice yax),.dat 12 (.int .i64),.dat 13 (.int .i64)]
abbrev g2:List Si:=[]
noncomputable def T:CT:=(.s .o (.s .o (.s (.s .o (.b (.l g1 .o))) (.r g2 .o))))
noncomputable def J1 (n:Nat)(m:Nat):(List (yak))×(List (yak))×Int×Int×Unit→Option R:=jL (X n) n T (yaX Tryz.f134) (endK ia io) g1 [1,1,0,1,0] [] m
noncomputable def J2 (n:Nat):Unit→Option R:=jR (X n) n T (yaX Tryz.f134) (endK ia io) g2 [1,1,1] []
noncomputable def f (n:Nat)(s1:List (yak))(s2:List (yak)):Option R:=fRun (X n) n T Tryz.f134 ia io (s1,s2,())
theorem e0 (n:Nat)(s1:List (yak))(s2:List (yak)):f n s1 s2 =
  bIf ((hide (((s1.length:Nat):Int) != ((s2.length:Nat):Int)))) (
    some (false,())
    ) (
    J1 n n (s1,s2,((s1.length:Nat):Int),0,())
    ):=(yaj _).trans (by kernel_rfl)
theorem e1 (n m:Nat) (s1:List (yak)) (s2:List (yak)) (t12:Int) (t13:Int):J1 n (m+1) (s1,s2,t12,t13,()) =
  bIf ((hide (decide (t13<t12)))) (
    gIf (0≤t13∧t13<((s1.length:Nat):Int)) (
      gIf (0≤t13∧t13<((s2.length:Nat):Int)) (
        bIf ((hide (!(eqD yax (List.getD s1 t13.toNat (Va.dflt yax)) (List.getD s2 t13.toNat (Va.dflt yax)))))) (
          some (false,())
          ) (
          J1 n m (s1,s2,t12,(IntKind.i64.wrap (t13+(1:Int))),())
          )
        )
      )
    ) (
    J2 n (())
    ):=(yaj _).trans (by kernel_rfl)
theorem e2 (n:Nat):J2 n (()) =
  some (true,()):=(yaj _).trans (by kernel_rfl)
theorem phi (n:Nat):∀ e∈(X n).c.Φ,EntryOk Tryz.prog e:=yaz
theorem ok (n:Nat):FnOk Tryz.prog 134 ia io (fRun (X n) n T Tryz.f134 ia io):=yaM mixed tabIs (phi n) Tryz.func134 (by kernel_rfl) rfl
noncomputable def en (n:Nat):Entry:=yaI 134 ia io (fRun (X n) n T Tryz.f134 ia io)
end ycj
end Go.Proofs.YtcpkhpboemfglaaGreatDoor

namespace Go.Proofs.YtcpkhpboemfglaaGreatDoor
open Go Go.Va Go.Proofs
namespace ycS
abbrev ia:List Ai:=[.dat (.slice yax),.dat (.slice yax)]
abbrev io:List (Nat×Oi):=[(4,.dat .bool)]
abbrev R:Type:=DOut ia io
noncomputable def X (n:Nat):Ctx:=⟨⟨tab,[ycj.en n],0,[]⟩,8,bnOf 0 ia⟩
noncomputable def T:CT := .o
noncomputable def f (n:Nat)(a:List (yak))(b:List (yak)):Option R:=fRun (X n) n T Tryz.f59 ia io (a,b,())
theorem e0 (n:Nat)(a:List (yak))(b:List (yak)):f n a b =
  bnd (ycj.f n a b) λu1=>
  some (u1.1,()):=(yaj _).trans (by kernel_rfl)
theorem phi (n:Nat):∀ e∈(X n).c.Φ,EntryOk Tryz.prog e:=yah (yab (ycj.ok n)) (yaz)
theorem ok (n:Nat):FnOk Tryz.prog 59 ia io (fRun (X n) n T Tryz.f59 ia io):=yaM mixed tabIs (phi n) Tryz.func59 (by kernel_rfl) rfl
noncomputable def en (n:Nat):Entry:=yaI 59 ia io (fRun (X n) n T Tryz.f59 ia io)
end ycS
end Go.Proofs.YtcpkhpboemfglaaGreatDoor

namespace Go.Proofs.YtcpkhpboemfglaaGreatDoor
open Go Go.Va Go.Proofs
namespace ycb
abbrev ia:List Ai:=[.dat (.slice yax),.dat (.slice yax)]
abbrev io:List (Nat×Oi):=[(4,.dat .bool)]
abbrev R:Type:=DOut ia io
noncomputable def X (n:Nat):Ctx:=⟨⟨tab,[],0,[]⟩,41,bnOf 0 ia⟩
abbrev g1:List Si:=[.dat 0 (.slice yax),.dat 1 (.slice yax),.dat 5 (.int .i64)]
abbrev g2:List Si:=[.dat 0 (.slice yax),.dat 1 (.slice yax),.dat 5 (.int .i64)]
abbrev g3:List Si:=[]
noncomputable def T:CT:=(.s .o (.s .o (.s (.s .o (.b (.l g1 (.s .o (.s .o (.r g2 .o)))))) (.r g3 .o))))
noncomputable def J1 (n:Nat)(m:Nat):(List (yak))×(List (yak))×Int×Unit→Option R:=jL (X n) n T (yaX Tryz.f62) (endK ia io) g1 [1,1,0,1,0] [] m
noncomputable def J2 (n m1:Nat):(List (yak))×(List (yak))×Int×Unit→Option R:=jR (X n) n T (yaX Tryz.f62) (endK ia io) g2 [1,1,0,1,0,0,1,1] [m1]
noncomputable def J3 (n:Nat):Unit→Option R:=jR (X n) n T (yaX Tryz.f62) (endK ia io) g3 [1,1,1] []
noncomputable def f (n:Nat)(a:List (yak))(b:List (yak)):Option R:=fRun (X n) n T Tryz.f62 ia io (a,b,())
theorem e0 (n:Nat)(a:List (yak))(b:List (yak)):f n a b =
  bIf ((hide (((a.length:Nat):Int) != ((b.length:Nat):Int)))) (
    some (false,())
    ) (
    J1 n n (a,b,0,())
    ):=(yaj _).trans (by kernel_rfl)
theorem e1 (n m : Nat) (a:List (yak)) (b:List (yak)) (i:Int):J1 n (m+1) (a,b,i,()) =
  bIf ((hide (decide (i<((a.length:Nat):Int))))) (
    gIf (0≤i∧i<((a.length:Nat):Int)) (
      gIf (0≤i∧i<((b.length:Nat):Int)) (
        bIf ((hide (!eqS ((List.getD a i.toNat (Va.dflt yax)).1) ((List.getD b i.toNat (Va.dflt yax)).1)))) (
          some (false,())
          ) (
          gIf (0≤i∧i<((a.length:Nat):Int)) (
            gIf (0≤i∧i<((b.length:Nat):Int)) (
              bIf ((hide (!eqS (((List.getD a i.toNat (Va.dflt yax)).2).1) (((List.getD b i.toNat (Va.dflt yax)).2).1)))) (
                some (false,())
                ) (
                J2 n m (a,b,i,())
                )
              )
            )
          )
        )
      )
    ) (
    J3 n (())
    ):=(yaj _).trans (by kernel_rfl)
theorem e2 (n m1:Nat)(a:List (yak))(b:List (yak))(i:Int):J2 n m1 (a,b,i,()) =
  J1 n m1 (a,b,(IntKind.i64.wrap (i+(1:Int))),()):=(yaj _).trans (by kernel_rfl)
theorem e3 (n:Nat):J3 n (()) =
  some (true,()):=(yaj _).trans (by kernel_rfl)
theorem phi (n:Nat):∀ e∈(X n).c.Φ,EntryOk Tryz.prog e:=yaz
theorem ok (n:Nat):FnOk Tryz.prog 62 ia io (fRun (X n) n T Tryz.f62 ia io):=yaM mixed tabIs (phi n) Tryz.func62 (by kernel_rfl) rfl
noncomputable def en (n:Nat):Entry:=yaI 62 ia io (fRun (X n) n T Tryz.f62 ia io)
end ycb
end Go.Proofs.YtcpkhpboemfglaaGreatDoor

namespace Go.Proofs.YtcpkhpboemfglaaGreatDoor
open Go Go.Va Go.Proofs
namespace ydz
abbrev ia:List Ai:=[.dat .str]
abbrev io:List (Nat×Oi):=[(2,.dat .bool)]
abbrev R:Type:=DOut ia io
noncomputable def X (n:Nat):Ctx:=⟨⟨tab,[ybk.en n],0,[]⟩,14,bnOf 0 ia⟩
noncomputable def T:CT := .o
noncomputable def f (n:Nat)(s_:ByteArray):Option R:=fRun (X n) n T Tryz.f123 ia io (s_,())
theorem e0 (n:Nat)(s_:ByteArray):f n s_ =
  bIf ((hide (!eqS s_ (⟨#[]⟩:ByteArray)))) (
    bIf ((hide (decide ((s_.size:Int)≤(200:Int))))) (
      bnd (ybk.f n s_) λu1=>
      some (u1.1,())
      ) (
      some (false,())
      )
    ) (
    some (false,())
    ):=(yaj _).trans (by kernel_rfl)
theorem phi (n:Nat):∀ e∈(X n).c.Φ,EntryOk Tryz.prog e:=yah (yab (ybk.ok n)) (yaz)
theorem ok (n:Nat):FnOk Tryz.prog 123 ia io (fRun (X n) n T Tryz.f123 ia io):=yaM mixed tabIs (phi n) Tryz.func123 (by kernel_rfl) rfl
noncomputable def en (n:Nat):Entry:=yaI 123 ia io (fRun (X n) n T Tryz.f123 ia io)
end ydz
end Go.Proofs.YtcpkhpboemfglaaGreatDoor

namespace Go.Proofs.YtcpkhpboemfglaaGreatDoor
open Go Go.Va Go.Proofs
namespace yeg
abbrev ia:List Ai:=[.dat .str]
abbrev io:List (Nat×Oi):=[(2,.dat .bool)]
abbrev R:Type:=DOut ia io
noncomputable def X (n:Nat):Ctx:=⟨⟨tab,[yaH.en n],0,[]⟩,15,bnOf 0 ia⟩
noncomputable def T:CT := .o
noncomputable def f (n:Nat)(s_:ByteArray):Option R:=fRun (X n) n T Tryz.f49 ia io (s_,())
theorem e0 (n:Nat)(s_:ByteArray):f n s_ =
  bIf ((hide (decide ((s_.size:Int)≥(1:Int))))) (
    bIf ((hide (decide ((s_.size:Int)≤(200:Int))))) (
      bnd (yaH.f n s_) λu1=>
      some (u1.1,())
      ) (
      some (false,())
      )
    ) (
    some (false,())
    ):=(yaj _).trans (by kernel_rfl)
theorem phi (n:Nat):∀ e∈(X n).c.Φ,EntryOk Tryz.prog e:=yah (yab (yaH.ok n)) (yaz)
theorem ok (n:Nat):FnOk Tryz.prog 49 ia io (fRun (X n) n T Tryz.f49 ia io):=yaM mixed tabIs (phi n) Tryz.func49 (by kernel_rfl) rfl
noncomputable def en (n:Nat):Entry:=yaI 49 ia io (fRun (X n) n T Tryz.f49 ia io)
end yeg
end Go.Proofs.YtcpkhpboemfglaaGreatDoor

namespace Go.Proofs.YtcpkhpboemfglaaGreatDoor
open Go Go.Va Go.Proofs
namespace ydp
abbrev ia:List Ai:=[.dat yca]
abbrev io:List (Nat×Oi):=[(2,.dat .bool)]
abbrev R:Type:=DOut ia io
noncomputable def X (n:Nat):Ctx:=⟨⟨tab,[ydi.en n,yc8.en n,ych.en n],0,[]⟩,65,bnOf 0 ia⟩
abbrev g1:List Si:=[.ref 1 1 yca,.box 1 (.d yca)]
noncomputable def T:CT:=(.s .o (.s .o (.r g1 .o)))
noncomputable def J1 (n:Nat):ybw×Unit→Option R:=jR (X n) n T (yaX Tryz.f127) (endK ia io) g1 [1,1] []
noncomputable def f (n:Nat)(v_:ybw):Option R:=fRun (X n) n T Tryz.f127 ia io (v_,())
theorem e0 (n:Nat)(v_:ybw):f n v_ =
  bIf ((hide (v_.1==(0:Int)))) (
    some (false,())
    ) (
    bnd (ydi.f n v_.2.2.2.2.2.1) λu1=>
    bIf ((hide (v_.2.2.2.2.2.1 != u1.1))) (
      some (false,())
      ) (
      J1 n (v_,())
      )
    ):=(yaj _).trans (by kernel_rfl)
theorem e1 (n:Nat) (v_:ybw):J1 n (v_,()) =
  bIf (v_.2.1) (
    bIf ((hide (v_.2.2.1==(0:Int)))) (
      bIf ((hide (v_.2.2.2.1==(0:Int)))) (
        bIf ((hide (eqD (.arr 32 (.int .u8)) v_.2.2.2.2.1 ([]++List.replicate (32-([]:List (Int)).length) 0)))) (
          bIf ((hide (eqD yaT v_.2.2.2.2.2.2.1 (0,(0,(false,())))))) (
            some ((hide (((v_.2.2.2.2.2.2.2.1.length:Nat):Int)==(0:Int))),())
            ) (
            some (false,())
            )
          ) (
          some (false,())
          )
        ) (
        some (false,())
        )
      ) (
      some (false,())
      )
    ) (
    bIf ((hide (decide (v_.2.2.1≥(0:Int))))) (
      bIf ((hide (decide (v_.2.2.1≤(16384:Int))))) (
        bIf ((hide (decide (v_.2.2.2.1>(0:Int))))) (
          bnd (yc8.f n v_.2.2.2.2.2.2.1) λu1=>
          bIf (u1.1) (
            bnd (ych.f n v_.2.2.2.2.2.2.2.1) λu2=>
            some (u2.1,())
            ) (
            some (false,())
            )
          ) (
          some (false,())
          )
        ) (
        some (false,())
        )
      ) (
      some (false,())
      )
    ):=(yaj _).trans (by kernel_rfl)
theorem phi (n:Nat):∀ e∈(X n).c.Φ,EntryOk Tryz.prog e:=yah (yab (ydi.ok n)) (yah (yab (yc8.ok n)) (yah (yab (ych.ok n)) (yaz)))
theorem ok (n:Nat):FnOk Tryz.prog 127 ia io (fRun (X n) n T Tryz.f127 ia io):=yaM mixed tabIs (phi n) Tryz.func127 (by kernel_rfl) rfl
noncomputable def en (n:Nat):Entry:=yaI 127 ia io (fRun (X n) n T Tryz.f127 ia io)
end ydp
end Go.Proofs.YtcpkhpboemfglaaGreatDoor

namespace Go.Proofs.YtcpkhpboemfglaaGreatDoor
open Go Go.Va Go.Proofs
namespace ybj
abbrev ia:List Ai:=[.dat yca,.dat yca]
abbrev io:List (Nat×Oi):=[(4,.dat .bool)]
abbrev R:Type:=DOut ia io
noncomputable def X (n:Nat):Ctx:=⟨⟨tab,[ycS.en n],0,[]⟩,61,bnOf 0 ia⟩
noncomputable def T:CT := .o
noncomputable def f (n:Nat)(a:ybw)(b:ybw):Option R:=fRun (X n) n T Tryz.f58 ia io (a,b,())
theorem e0 (n : Nat) (a:ybw) (b:ybw):f n a b =
  bnd (ycS.f n a.2.2.2.2.2.2.2.1 b.2.2.2.2.2.2.2.1) λu1=>
  bIf (u1.1) (
    bIf ((hide (a.1==b.1))) (
      bIf ((hide (a.2.1==b.2.1))) (
        bIf ((hide (a.2.2.1==b.2.2.1))) (
          bIf ((hide (a.2.2.2.1==b.2.2.2.1))) (
            bIf ((hide (eqD (.arr 32 (.int .u8)) a.2.2.2.2.1 b.2.2.2.2.1))) (
              bIf ((hide (a.2.2.2.2.2.1==b.2.2.2.2.2.1))) (
                some ((hide (eqD yaT a.2.2.2.2.2.2.1 b.2.2.2.2.2.2.1)),())
                ) (
                some (false,())
                )
              ) (
              some (false,())
              )
            ) (
            some (false,())
            )
          ) (
          some (false,())
          )
        ) (
        some (false,())
        )
      ) (
      some (false,())
      )
    ) (
    some (false,())
    ):=(yaj _).trans (by kernel_rfl)
theorem phi (n:Nat):∀ e∈(X n).c.Φ,EntryOk Tryz.prog e:=yah (yab (ycS.ok n)) (yaz)
theorem ok (n:Nat):FnOk Tryz.prog 58 ia io (fRun (X n) n T Tryz.f58 ia io):=yaM mixed tabIs (phi n) Tryz.func58 (by kernel_rfl) rfl
noncomputable def en (n:Nat):Entry:=yaI 58 ia io (fRun (X n) n T Tryz.f58 ia io)
end ybj
end Go.Proofs.YtcpkhpboemfglaaGreatDoor

namespace Go.Proofs.YtcpkhpboemfglaaGreatDoor
open Go Go.Va Go.Proofs
namespace yck
abbrev ia:List Ai:=[.dat yca,.dat yca]
abbrev io:List (Nat×Oi):=[(4,.dat .bool)]
abbrev R:Type:=DOut ia io
noncomputable def X (n:Nat):Ctx:=⟨⟨tab,[ycb.en n],0,[]⟩,57,bnOf 0 ia⟩
abbrev g1:List Si:=[.ref 2 2 yca,.ref 3 3 yca,.box 2 (.d yca),.box 3 (.d yca)]
noncomputable def T:CT:=(.s .o (.s .o (.r g1 .o)))
noncomputable def J1 (n:Nat):ybw×ybw×Unit→Option R:=jR (X n) n T (yaX Tryz.f51) (endK ia io) g1 [1,1] []
noncomputable def f (n:Nat)(a:ybw)(b:ybw):Option R:=fRun (X n) n T Tryz.f51 ia io (a,b,())
theorem e0 (n : Nat) (a:ybw) (b:ybw):f n a b =
  bIf ((hide (a.1 != b.1))) (
    some (false,())
    ) (
    bIf ((hide (!(a.2.1==b.2.1)))) (
      some (false,())
      ) (
      bIf ((hide (a.2.2.1 != b.2.2.1))) (
        some (false,())
        ) (
        bIf ((hide (a.2.2.2.1 != b.2.2.2.1))) (
          some (false,())
          ) (
          bIf ((hide (a.2.2.2.2.2.1 != b.2.2.2.2.2.1))) (
            some (false,())
            ) (
            bIf ((hide (!(eqD yaT a.2.2.2.2.2.2.1 b.2.2.2.2.2.2.1)))) (
              some (false,())
              ) (
              J1 n (a,b,())
              )
            )
          )
        )
      )
    ):=(yaj _).trans (by kernel_rfl)
theorem e1 (n:Nat)(a:ybw)(b:ybw):J1 n (a,b,()) =
  bIf ((hide (eqD (.arr 32 (.int .u8)) a.2.2.2.2.1 b.2.2.2.2.1))) (
    bnd (ycb.f n a.2.2.2.2.2.2.2.1 b.2.2.2.2.2.2.2.1) λu1=>
    some (u1.1,())
    ) (
    some (false,())
    ):=(yaj _).trans (by kernel_rfl)
theorem phi (n:Nat):∀ e∈(X n).c.Φ,EntryOk Tryz.prog e:=yah (yab (ycb.ok n)) (yaz)
theorem ok (n:Nat):FnOk Tryz.prog 51 ia io (fRun (X n) n T Tryz.f51 ia io):=yaM mixed tabIs (phi n) Tryz.func51 (by kernel_rfl) rfl
noncomputable def en (n:Nat):Entry:=yaI 51 ia io (fRun (X n) n T Tryz.f51 ia io)
end yck
end Go.Proofs.YtcpkhpboemfglaaGreatDoor

namespace Go.Proofs.YtcpkhpboemfglaaGreatDoor
open Go Go.Va Go.Proofs
namespace yee
abbrev ia:List Ai:=[.dat yaC]
abbrev io:List (Nat×Oi):=[(2,.dat .bool)]
abbrev R:Type:=DOut ia io
noncomputable def X (n:Nat):Ctx:=⟨⟨tab,[],0,[]⟩,21,bnOf 0 ia⟩
abbrev g1:List Si:=[.ref 1 1 yaC,.dat 10 .bool,.box 1 (.d yaC)]
noncomputable def T:CT:=(.s .o (.s (.s .o (.b (.s .o (.c .o (.s .o (.r g1 .o)))))) .o))
noncomputable def J1 (n:Nat):Bool×yad×Unit→Option R:=jR (X n) n T (yaX Tryz.f124) (endK ia io) g1 [1,0,1,0,1,1,1] []
noncomputable def f (n:Nat)(d:yad):Option R:=fRun (X n) n T Tryz.f124 ia io (d,())
theorem e0 (n:Nat)(d:yad):f n d =
  bIf ((hide (d.1==(0:Int)))) (
    some ((hide (d.2.1==(0:Int))),())
    ) (
    bIf ((hide (d.1==(1:Int)))) (
      J1 n (true,d,())
      ) (
      J1 n ((hide (d.1==(2:Int))),d,())
      )
    ):=(yaj _).trans (by kernel_rfl)
theorem e1 (n:Nat)(t10:Bool)(d:yad):J1 n (t10,d,()) =
  bIf (t10) (
    bIf ((hide (decide (d.2.1≥(1:Int))))) (
      some ((hide (decide (d.2.1≤(36500:Int)))),())
      ) (
      some (false,())
      )
    ) (
    some (false,())
    ):=(yaj _).trans (by kernel_rfl)
theorem phi (n:Nat):∀ e∈(X n).c.Φ,EntryOk Tryz.prog e:=yaz
theorem ok (n:Nat):FnOk Tryz.prog 124 ia io (fRun (X n) n T Tryz.f124 ia io):=yaM mixed tabIs (phi n) Tryz.func124 (by kernel_rfl) rfl
noncomputable def en (n:Nat):Entry:=yaI 124 ia io (fRun (X n) n T Tryz.f124 ia io)
end yee
end Go.Proofs.YtcpkhpboemfglaaGreatDoor

namespace Go.Proofs.YtcpkhpboemfglaaGreatDoor
open Go Go.Va Go.Proofs
namespace ydV
abbrev ia:List Ai:=[.dat yaC]
abbrev io:List (Nat×Oi):=[(2,.dat .bool)]
abbrev R:Type:=DOut ia io
noncomputable def X (n:Nat):Ctx:=⟨⟨tab,[],0,[]⟩,27,bnOf 0 ia⟩
noncomputable def T:CT := .o
noncomputable def f (n:Nat)(d:yad):Option R:=fRun (X n) n T Tryz.f54 ia io (d,())
theorem e0 (n:Nat) (d:yad):f n d =
  bIf ((hide (d.1==(0:Int)))) (
    some ((hide (d.2.1==(0:Int))),())
    ) (
    bIf ((hide (d.1==(1:Int)))) (
      bIf ((hide (decide (d.2.1≥(1:Int))))) (
        some ((hide (decide (d.2.1≤(36500:Int)))),())
        ) (
        some (false,())
        )
      ) (
      bIf ((hide (d.1==(2:Int)))) (
        bIf ((hide (decide (d.2.1≥(1:Int))))) (
          some ((hide (decide (d.2.1≤(36500:Int)))),())
          ) (
          some (false,())
          )
        ) (
        some (false,())
        )
      )
    ):=(yaj _).trans (by kernel_rfl)
theorem phi (n:Nat):∀ e∈(X n).c.Φ,EntryOk Tryz.prog e:=yaz
theorem ok (n:Nat):FnOk Tryz.prog 54 ia io (fRun (X n) n T Tryz.f54 ia io):=yaM mixed tabIs (phi n) Tryz.func54 (by kernel_rfl) rfl
noncomputable def en (n:Nat):Entry:=yaI 54 ia io (fRun (X n) n T Tryz.f54 ia io)
end ydV
end Go.Proofs.YtcpkhpboemfglaaGreatDoor

namespace Go.Proofs.YtcpkhpboemfglaaGreatDoor
open Go Go.Va Go.Proofs
namespace ycw
abbrev ia:List Ai:=[.dat .str]
abbrev io:List (Nat×Oi):=[(2,.val (.r 0 ycM)),(3,.dat .bool)]
abbrev R:Type:=DOut ia io
noncomputable def X (n:Nat):Ctx:=⟨⟨tab,[],0,[]⟩,46,bnOf 0 ia⟩
abbrev g1:List Si:=[.dat 0 .str,.val 4 (.r 200400 ycM),.dat 5 (.int .i64)]
abbrev g2:List Si:=[.dat 0 .str,.val 4 (.r 200400 ycM),.dat 5 (.int .i64)]
abbrev g3:List Si:=[.dat 0 .str,.val 4 (.r 200400 ycM),.dat 5 (.int .i64)]
abbrev g4:List Si:=[.val 4 (.r 200400 ycM)]
noncomputable def T:CT:=(.s .o (.s .o (.s .o (.s (.s .o (.b (.l g1 (.s .o (.s (.b (.s .o (.b (.s .o (.r g2 .o))))) (.r g3 .o)))))) (.r g4 .o)))))
noncomputable def J1 (n:Nat)(m:Nat):ByteArray×(List (ybp))×Int×Unit→Option R:=jL (X n) n T (yaX Tryz.f214) (endK ia io) g1 [1,1,1,0,1,0] [] m
noncomputable def J2 (n m1:Nat):ByteArray×(List (ybp))×Int×Unit→Option R:=jR (X n) n T (yaX Tryz.f214) (endK ia io) g2 [1,1,1,0,1,0,0,1,0,0,1,0,1] [m1]
noncomputable def J3 (n m1:Nat):ByteArray×(List (ybp))×Int×Unit→Option R:=jR (X n) n T (yaX Tryz.f214) (endK ia io) g3 [1,1,1,0,1,0,0,1,1] [m1]
noncomputable def J4 (n:Nat):(List (ybp))×Unit→Option R:=jR (X n) n T (yaX Tryz.f214) (endK ia io) g4 [1,1,1,1] []
noncomputable def f (n:Nat)(p:ByteArray):Option R:=fRun (X n) n T Tryz.f214 ia io (p,())
theorem e0 (n:Nat)(p:ByteArray):f n p =
  bIf ((hide (decide ((p.size:Int)>(200:Int))))) (
    some ([],false,())
    ) (
    J1 n n (p,[],0,())
    ):=(yaj _).trans (by kernel_rfl)
theorem e1 (n m:Nat) (p:ByteArray) (out:List (ybp)) (i:Int):J1 n (m+1) (p,out,i,()) =
  bIf ((hide (decide (i<(p.size:Int))))) (
    gIf (0≤i∧i<(p.size:Int)) (
      bIf ((hide ((bt p i)==(42:Int)))) (
        gIf ((out.length+1)*16≤70368744177664) (
          J3 n m (p,(out++([(2,(0,()))]:List (ybp))),i,())
          )
        ) (
        bIf ((hide ((bt p i)==(63:Int)))) (
          gIf ((out.length+1)*16≤70368744177664) (
            J3 n m (p,(out++([(1,(0,()))]:List (ybp))),i,())
            )
          ) (
          bIf ((hide ((bt p i)==(92:Int)))) (
            bIf ((hide ((IntKind.i64.wrap (i+(1:Int)))==(p.size:Int)))) (
              some ([],false,())
              ) (
              J2 n m (p,out,(IntKind.i64.wrap (i+(1:Int))),())
              )
            ) (
            J2 n m (p,out,i,())
            )
          )
        )
      )
    ) (
    J4 n (out,())
    ):=(yaj _).trans (by kernel_rfl)
theorem e2 (n m1:Nat)(p:ByteArray)(out:List (ybp))(i:Int):J2 n m1 (p,out,i,()) =
  gIf (0≤i∧i<(p.size:Int)) (
    gIf ((out.length+1)*16≤70368744177664) (
      J3 n m1 (p,(out++([(0,((bt p i),()))]:List (ybp))),i,())
      )
    ):=(yaj _).trans (by kernel_rfl)
theorem e3 (n m1:Nat)(p:ByteArray)(out:List (ybp))(i:Int):J3 n m1 (p,out,i,()) =
  J1 n m1 (p,out,(IntKind.i64.wrap (i+(1:Int))),()):=(yaj _).trans (by kernel_rfl)
theorem e4 (n:Nat)(out:List (ybp)):J4 n (out,()) =
  some (out,true,()):=(yaj _).trans (by kernel_rfl)
theorem phi (n:Nat):∀ e∈(X n).c.Φ,EntryOk Tryz.prog e:=yaz
theorem ok (n:Nat):FnOk Tryz.prog 214 ia io (fRun (X n) n T Tryz.f214 ia io):=yaM mixed tabIs (phi n) Tryz.func214 (by kernel_rfl) rfl
noncomputable def en (n:Nat):Entry:=yaI 214 ia io (fRun (X n) n T Tryz.f214 ia io)
end ycw
end Go.Proofs.YtcpkhpboemfglaaGreatDoor

namespace Go.Proofs.YtcpkhpboemfglaaGreatDoor
open Go Go.Va Go.Proofs
namespace ydJ
abbrev ia:List Ai:=[.dat .str]
abbrev io:List (Nat×Oi):=[(2,.dat .bool)]
abbrev R:Type:=DOut ia io
noncomputable def X (n:Nat):Ctx:=⟨⟨tab,[ycw.en n],0,[]⟩,11,bnOf 0 ia⟩
noncomputable def T:CT := .o
noncomputable def f (n:Nat)(p:ByteArray):Option R:=fRun (X n) n T Tryz.f182 ia io (p,())
theorem e0 (n:Nat)(p:ByteArray):f n p =
  bnd (ycw.f n p) λu1=>
  some (u1.2.1,()):=(yaj _).trans (by kernel_rfl)
theorem phi (n:Nat):∀ e∈(X n).c.Φ,EntryOk Tryz.prog e:=yah (yab (ycw.ok n)) (yaz)
theorem ok (n:Nat):FnOk Tryz.prog 182 ia io (fRun (X n) n T Tryz.f182 ia io):=yaM mixed tabIs (phi n) Tryz.func182 (by kernel_rfl) rfl
noncomputable def en (n:Nat):Entry:=yaI 182 ia io (fRun (X n) n T Tryz.f182 ia io)
end ydJ
end Go.Proofs.YtcpkhpboemfglaaGreatDoor

namespace Go.Proofs.YtcpkhpboemfglaaGreatDoor
open Go Go.Va Go.Proofs
namespace ycE
abbrev ia:List Ai:=[.dat .str]
abbrev io:List (Nat×Oi):=[(2,.val (.r 0 ycM)),(3,.dat .bool)]
abbrev R:Type:=DOut ia io
noncomputable def X (n:Nat):Ctx:=⟨⟨tab,[],0,[]⟩,57,bnOf 0 ia⟩
abbrev g1:List Si:=[.dat 0 .str,.val 4 (.r 200400 ycM),.dat 5 (.int .i64)]
abbrev g2:List Si:=[.dat 0 .str,.val 4 (.r 200400 ycM),.dat 5 (.int .i64)]
abbrev g3:List Si:=[.val 4 (.r 200400 ycM)]
noncomputable def T:CT:=(.s .o (.s .o (.s .o (.s (.s .o (.b (.l g1 (.s .o (.s .o (.r g2 .o)))))) (.r g3 .o)))))
noncomputable def J1 (n:Nat)(m:Nat):ByteArray×(List (ybp))×Int×Unit→Option R:=jL (X n) n T (yaX Tryz.f184) (endK ia io) g1 [1,1,1,0,1,0] [] m
noncomputable def J2 (n m1:Nat):ByteArray×(List (ybp))×Int×Unit→Option R:=jR (X n) n T (yaX Tryz.f184) (endK ia io) g2 [1,1,1,0,1,0,0,1,1] [m1]
noncomputable def J3 (n:Nat):(List (ybp))×Unit→Option R:=jR (X n) n T (yaX Tryz.f184) (endK ia io) g3 [1,1,1,1] []
noncomputable def f (n:Nat)(p:ByteArray):Option R:=fRun (X n) n T Tryz.f184 ia io (p,())
theorem e0 (n:Nat)(p:ByteArray):f n p =
  bIf ((hide (decide ((p.size:Int)>(200:Int))))) (
    some (([]:List (ybp)),false,())
    ) (
    J1 n n (p,([]:List (ybp)),0,())
    ):=(yaj _).trans (by kernel_rfl)
theorem e1 (n m : Nat) (p:ByteArray) (out:List (ybp)) (i:Int):J1 n (m+1) (p,out,i,()) =
  bIf ((hide (decide (i<(p.size:Int))))) (
    gIf (0≤i∧i<(p.size:Int)) (
      bIf ((hide ((bt p i)==(42:Int)))) (
        gIf ((out.length+1)*16≤70368744177664) (
          J2 n m (p,(out++([(2,(0,()))]:List (ybp))),i,())
          )
        ) (
        bIf ((hide ((bt p i)==(63:Int)))) (
          gIf ((out.length+1)*16≤70368744177664) (
            J2 n m (p,(out++([(1,(0,()))]:List (ybp))),i,())
            )
          ) (
          bIf ((hide ((bt p i)==(92:Int)))) (
            bIf ((hide (i==(IntKind.i64.wrap ((p.size:Int)-(1:Int)))))) (
              some (out,false,())
              ) (
              gIf (0≤(IntKind.i64.wrap (i+(1:Int)))∧(IntKind.i64.wrap (i+(1:Int)))<(p.size:Int)) (
                gIf ((out.length+1)*16≤70368744177664) (
                  J2 n m (p,(out++([(0,((bt p (IntKind.i64.wrap (i+(1:Int)))),()))]:List (ybp))),(IntKind.i64.wrap (i+(1:Int))),())
                  )
                )
              )
            ) (
            gIf (0≤i∧i<(p.size:Int)) (
              gIf ((out.length+1)*16≤70368744177664) (
                J2 n m (p,(out++([(0,((bt p i),()))]:List (ybp))),i,())
                )
              )
            )
          )
        )
      )
    ) (
    J3 n (out,())
    ):=(yaj _).trans (by kernel_rfl)
theorem e2 (n m1:Nat)(p:ByteArray)(out:List (ybp))(i:Int):J2 n m1 (p,out,i,()) =
  J1 n m1 (p,out,(IntKind.i64.wrap (i+(1:Int))),()):=(yaj _).trans (by kernel_rfl)
theorem e3 (n:Nat)(out:List (ybp)):J3 n (out,()) =
  some (out,true,()):=(yaj _).trans (by kernel_rfl)
theorem phi (n:Nat):∀ e∈(X n).c.Φ,EntryOk Tryz.prog e:=yaz
theorem ok (n:Nat):FnOk Tryz.prog 184 ia io (fRun (X n) n T Tryz.f184 ia io):=yaM mixed tabIs (phi n) Tryz.func184 (by kernel_rfl) rfl
noncomputable def en (n:Nat):Entry:=yaI 184 ia io (fRun (X n) n T Tryz.f184 ia io)
end ycE
end Go.Proofs.YtcpkhpboemfglaaGreatDoor

namespace Go.Proofs.YtcpkhpboemfglaaGreatDoor
open Go Go.Va Go.Proofs
namespace ydq
abbrev ia:List Ai:=[.dat .str]
abbrev io:List (Nat×Oi):=[(2,.dat .bool)]
abbrev R:Type:=DOut ia io
noncomputable def X (n:Nat):Ctx:=⟨⟨tab,[ycE.en n],0,[]⟩,11,bnOf 0 ia⟩
noncomputable def T:CT := .o
noncomputable def f (n:Nat)(p:ByteArray):Option R:=fRun (X n) n T Tryz.f133 ia io (p,())
theorem e0 (n:Nat)(p:ByteArray):f n p =
  bnd (ycE.f n p) λu1=>
  some (u1.2.1,()):=(yaj _).trans (by kernel_rfl)
theorem phi (n:Nat):∀ e∈(X n).c.Φ,EntryOk Tryz.prog e:=yah (yab (ycE.ok n)) (yaz)
theorem ok (n:Nat):FnOk Tryz.prog 133 ia io (fRun (X n) n T Tryz.f133 ia io):=yaM mixed tabIs (phi n) Tryz.func133 (by kernel_rfl) rfl
noncomputable def en (n:Nat):Entry:=yaI 133 ia io (fRun (X n) n T Tryz.f133 ia io)
end ydq
end Go.Proofs.YtcpkhpboemfglaaGreatDoor

namespace Go.Proofs.YtcpkhpboemfglaaGreatDoor
open Go Go.Va Go.Proofs
namespace yd9
abbrev ia:List Ai:=[.dat yaF]
abbrev io:List (Nat×Oi):=[(2,.dat .bool)]
abbrev R:Type:=DOut ia io
noncomputable def X (n:Nat):Ctx:=⟨⟨tab,[ych.en n,ybk.en n],0,[]⟩,37,bnOf 0 ia⟩
noncomputable def T:CT := .o
noncomputable def f (n:Nat)(r:yag):Option R:=fRun (X n) n T Tryz.f179 ia io (r,())
theorem e0 (n : Nat) (r:yag):f n r =
  bIf ((hide (decide ((r.1.size:Int)≤(200:Int))))) (
    bnd (ybk.f n r.1) λu1=>
    bIf (u1.1) (
      bnd (ych.f n r.2.1) λu2=>
      bIf (u2.1) (
        bIf ((hide (decide (r.2.2.1≥(0:Int))))) (
          bIf ((hide (decide (r.2.2.1≤(36500:Int))))) (
            bIf ((hide (decide (r.2.2.2.1≥(0:Int))))) (
              some ((hide (decide (r.2.2.2.1≤(36500:Int)))),())
              ) (
              some (false,())
              )
            ) (
            some (false,())
            )
          ) (
          some (false,())
          )
        ) (
        some (false,())
        )
      ) (
      some (false,())
      )
    ) (
    some (false,())
    ):=(yaj _).trans (by kernel_rfl)
theorem phi (n:Nat):∀ e∈(X n).c.Φ,EntryOk Tryz.prog e:=yah (yab (ych.ok n)) (yah (yab (ybk.ok n)) (yaz))
theorem ok (n:Nat):FnOk Tryz.prog 179 ia io (fRun (X n) n T Tryz.f179 ia io):=yaM mixed tabIs (phi n) Tryz.func179 (by kernel_rfl) rfl
noncomputable def en (n:Nat):Entry:=yaI 179 ia io (fRun (X n) n T Tryz.f179 ia io)
end yd9
end Go.Proofs.YtcpkhpboemfglaaGreatDoor

namespace Go.Proofs.YtcpkhpboemfglaaGreatDoor
open Go Go.Va Go.Proofs
namespace ydQ
abbrev ia:List Ai:=[.dat yaF]
abbrev io:List (Nat×Oi):=[(2,.dat .bool)]
abbrev R:Type:=DOut ia io
noncomputable def X (n:Nat):Ctx:=⟨⟨tab,[yd9.en n],0,[]⟩,6,bnOf 0 ia⟩
noncomputable def T:CT := .o
noncomputable def f (n:Nat)(r:yag):Option R:=fRun (X n) n T Tryz.f178 ia io (r,())
theorem e0 (n:Nat)(r:yag):f n r =
  bnd (yd9.f n r) λu1=>
  some ((!u1.1),()):=(yaj _).trans (by kernel_rfl)
theorem phi (n:Nat):∀ e∈(X n).c.Φ,EntryOk Tryz.prog e:=yah (yab (yd9.ok n)) (yaz)
theorem ok (n:Nat):FnOk Tryz.prog 178 ia io (fRun (X n) n T Tryz.f178 ia io):=yaM mixed tabIs (phi n) Tryz.func178 (by kernel_rfl) rfl
noncomputable def en (n:Nat):Entry:=yaI 178 ia io (fRun (X n) n T Tryz.f178 ia io)
end ydQ
end Go.Proofs.YtcpkhpboemfglaaGreatDoor

namespace Go.Proofs.YtcpkhpboemfglaaGreatDoor
open Go Go.Va Go.Proofs
namespace ybz
abbrev ia:List Ai:=[.dat (.slice yaF),.fn (.fn 178) []]
abbrev io:List (Nat×Oi):=[(4,.dat (.int .i64))]
abbrev R:Type:=DOut ia io
noncomputable def X (n:Nat):Ctx:=⟨⟨tab,[ydQ.en n],0,[]⟩,19,bnOf 0 ia⟩
abbrev g1:List Si:=[.dat 0 (.slice yaF),.clo 1 (.fn 178) [],.dat 7 (.int .i64),.dat 8 (.int .i64)]
abbrev g2:List Si:=[]
noncomputable def T:CT:=(.s .o (.s (.s .o (.b (.l g1 .o))) (.r g2 .o)))
noncomputable def J1 (n:Nat)(m:Nat):(List (yag))×Int×Int×Unit→Option R:=jL (X n) n T (yaX Tryz.f212) (endK ia io) g1 [1,0,1,0] [] m
noncomputable def J2 (n:Nat):Unit→Option R:=jR (X n) n T (yaX Tryz.f212) (endK ia io) g2 [1,1] []
noncomputable def f (n:Nat)(s_:List (yag)):Option R:=fRun (X n) n T Tryz.f212 ia io (s_,())
theorem e0 (n:Nat)(s_:List (yag)):f n s_ =
  J1 n n (s_,((s_.length:Nat):Int),0,()):=(yaj _).trans (by kernel_rfl)
theorem e1 (n m:Nat) (s_:List (yag)) (t7:Int) (t8:Int):J1 n (m+1) (s_,t7,t8,()) =
  bIf ((hide (decide (t8<t7)))) (
    gIf (0≤t8∧t8<((s_.length:Nat):Int)) (
      bnd (ydQ.f n (List.getD s_ t8.toNat (Va.dflt yaF))) λu1=>
      bIf (u1.1) (
        some (t8,())
        ) (
        J1 n m (s_,t7,(IntKind.i64.wrap (t8+(1:Int))),())
        )
      )
    ) (
    J2 n (())
    ):=(yaj _).trans (by kernel_rfl)
theorem e2 (n:Nat):J2 n (()) =
  some ((-1),()):=(yaj _).trans (by kernel_rfl)
theorem phi (n:Nat):∀ e∈(X n).c.Φ,EntryOk Tryz.prog e:=yah (yab (ydQ.ok n)) (yaz)
theorem ok (n:Nat):FnOk Tryz.prog 212 ia io (fRun (X n) n T Tryz.f212 ia io):=yaM mixed tabIs (phi n) Tryz.func212 (by kernel_rfl) rfl
noncomputable def en (n:Nat):Entry:=yaI 212 ia io (fRun (X n) n T Tryz.f212 ia io)
end ybz
end Go.Proofs.YtcpkhpboemfglaaGreatDoor

namespace Go.Proofs.YtcpkhpboemfglaaGreatDoor
open Go Go.Va Go.Proofs
namespace ycd
abbrev ia:List Ai:=[.dat (.slice yaF),.fn (.fn 178) []]
abbrev io:List (Nat×Oi):=[(4,.dat .bool)]
abbrev R:Type:=DOut ia io
noncomputable def X (n:Nat):Ctx:=⟨⟨tab,[ybz.en n],0,[]⟩,9,bnOf 0 ia⟩
noncomputable def T:CT := .o
noncomputable def f (n:Nat)(s_:List (yag)):Option R:=fRun (X n) n T Tryz.f177 ia io (s_,())
theorem e0 (n:Nat)(s_:List (yag)):f n s_ =
  bnd (ybz.f n s_) λu1=>
  some ((hide (decide (u1.1≥(0:Int)))),()):=(yaj _).trans (by kernel_rfl)
theorem phi (n:Nat):∀ e∈(X n).c.Φ,EntryOk Tryz.prog e:=yah (yab (ybz.ok n)) (yaz)
theorem ok (n:Nat):FnOk Tryz.prog 177 ia io (fRun (X n) n T Tryz.f177 ia io):=yaM mixed tabIs (phi n) Tryz.func177 (by kernel_rfl) rfl
noncomputable def en (n:Nat):Entry:=yaI 177 ia io (fRun (X n) n T Tryz.f177 ia io)
end ycd
end Go.Proofs.YtcpkhpboemfglaaGreatDoor

namespace Go.Proofs.YtcpkhpboemfglaaGreatDoor
open Go Go.Va Go.Proofs
namespace ydW
abbrev ia:List Ai:=[.dat (.slice yaF)]
abbrev io:List (Nat×Oi):=[(2,.dat .bool)]
abbrev R:Type:=DOut ia io
noncomputable def X (n:Nat):Ctx:=⟨⟨tab,[ycd.en n],0,[]⟩,11,bnOf 0 ia⟩
noncomputable def T:CT := .o
noncomputable def f (n:Nat)(list:List (yag)):Option R:=fRun (X n) n T Tryz.f125 ia io (list,())
theorem e0 (n:Nat)(list:List (yag)):f n list =
  bIf ((hide (decide (((list.length:Nat):Int)≤(8:Int))))) (
    bnd (ycd.f n list) λu1=>
    some ((!u1.1),())
    ) (
    some (false,())
    ):=(yaj _).trans (by kernel_rfl)
theorem phi (n:Nat):∀ e∈(X n).c.Φ,EntryOk Tryz.prog e:=yah (yab (ycd.ok n)) (yaz)
theorem ok (n:Nat):FnOk Tryz.prog 125 ia io (fRun (X n) n T Tryz.f125 ia io):=yaM mixed tabIs (phi n) Tryz.func125 (by kernel_rfl) rfl
noncomputable def en (n:Nat):Entry:=yaI 125 ia io (fRun (X n) n T Tryz.f125 ia io)
end ydW
end Go.Proofs.YtcpkhpboemfglaaGreatDoor

namespace Go.Proofs.YtcpkhpboemfglaaGreatDoor
open Go Go.Va Go.Proofs
namespace ycL
abbrev ia:List Ai:=[.dat (.slice yaF)]
abbrev io:List (Nat×Oi):=[(2,.dat .bool)]
abbrev R:Type:=DOut ia io
noncomputable def X (n:Nat):Ctx:=⟨⟨tab,[ybV.en n,yaH.en n],0,[]⟩,54,bnOf 0 ia⟩
abbrev g1:List Si:=[.dat 0 (.slice yaF),.dat 3 (.int .i64)]
abbrev g2:List Si:=[.dat 0 (.slice yaF),.dat 3 (.int .i64)]
abbrev g3:List Si:=[]
noncomputable def T:CT:=(.s .o (.s .o (.s (.s .o (.b (.l g1 (.s .o (.s .o (.r g2 .o)))))) (.r g3 .o))))
noncomputable def J1 (n:Nat)(m:Nat):(List (yag))×Int×Unit→Option R:=jL (X n) n T (yaX Tryz.f55) (endK ia io) g1 [1,1,0,1,0] [] m
noncomputable def J2 (n m1:Nat):(List (yag))×Int×Unit→Option R:=jR (X n) n T (yaX Tryz.f55) (endK ia io) g2 [1,1,0,1,0,0,1,1] [m1]
noncomputable def J3 (n:Nat):Unit→Option R:=jR (X n) n T (yaX Tryz.f55) (endK ia io) g3 [1,1,1] []
noncomputable def f (n:Nat)(l:List (yag)):Option R:=fRun (X n) n T Tryz.f55 ia io (l,())
theorem e0 (n:Nat)(l:List (yag)):f n l =
  bIf ((hide (decide (((l.length:Nat):Int)>(8:Int))))) (
    some (false,())
    ) (
    J1 n n (l,0,())
    ):=(yaj _).trans (by kernel_rfl)
theorem e1 (n m : Nat) (l:List (yag)) (i:Int):J1 n (m+1) (l,i,()) =
  bIf ((hide (decide (i<((l.length:Nat):Int))))) (
    gIf (0≤i∧i<((l.length:Nat):Int)) (
      bIf ((hide (decide ((((List.getD l i.toNat (Va.dflt yaF)).1).size:Int)>(200:Int))))) (
        some (false,())
        ) (
        bnd (yaH.f n ((List.getD l i.toNat (Va.dflt yaF)).1)) λu1=>
        bIf ((!u1.1)) (
          some (false,())
          ) (
          bnd (ybV.f n (((List.getD l i.toNat (Va.dflt yaF)).2).1)) λu2=>
          bIf ((!u2.1)) (
            some (false,())
            ) (
            bIf ((hide (decide (((((List.getD l i.toNat (Va.dflt yaF)).2).2).1)<(0:Int))))) (
              some (false,())
              ) (
              bIf ((hide (decide (((((List.getD l i.toNat (Va.dflt yaF)).2).2).1)>(36500:Int))))) (
                some (false,())
                ) (
                bIf ((hide (decide ((((((List.getD l i.toNat (Va.dflt yaF)).2).2).2).1)<(0:Int))))) (
                  some (false,())
                  ) (
                  bIf ((hide (decide ((((((List.getD l i.toNat (Va.dflt yaF)).2).2).2).1)>(36500:Int))))) (
                    some (false,())
                    ) (
                    J2 n m (l,i,())
                    )
                  )
                )
              )
            )
          )
        )
      )
    ) (
    J3 n (())
    ):=(yaj _).trans (by kernel_rfl)
theorem e2 (n m1:Nat)(l:List (yag))(i:Int):J2 n m1 (l,i,()) =
  J1 n m1 (l,(IntKind.i64.wrap (i+(1:Int))),()):=(yaj _).trans (by kernel_rfl)
theorem e3 (n:Nat):J3 n (()) =
  some (true,()):=(yaj _).trans (by kernel_rfl)
theorem phi (n:Nat):∀ e∈(X n).c.Φ,EntryOk Tryz.prog e:=yah (yab (ybV.ok n)) (yah (yab (yaH.ok n)) (yaz))
theorem ok (n:Nat):FnOk Tryz.prog 55 ia io (fRun (X n) n T Tryz.f55 ia io):=yaM mixed tabIs (phi n) Tryz.func55 (by kernel_rfl) rfl
noncomputable def en (n:Nat):Entry:=yaI 55 ia io (fRun (X n) n T Tryz.f55 ia io)
end ycL
end Go.Proofs.YtcpkhpboemfglaaGreatDoor

namespace Go.Proofs.YtcpkhpboemfglaaGreatDoor
open Go Go.Va Go.Proofs
namespace ydA
abbrev ia:List Ai:=[.dat yaJ]
abbrev io:List (Nat×Oi):=[(2,.dat .bool)]
abbrev R:Type:=DOut ia io
noncomputable def X (n:Nat):Ctx:=⟨⟨tab,[ydJ.en n],0,[]⟩,19,bnOf 0 ia⟩
noncomputable def T:CT := .o
noncomputable def f (n:Nat)(g:yac):Option R:=fRun (X n) n T Tryz.f181 ia io (g,())
theorem e0 (n:Nat)(g:yac):f n g =
  bnd (ydJ.f n g.2.1) λu1=>
  bIf ((!u1.1)) (
    some (true,())
    ) (
    bnd (ydJ.f n g.2.2.1) λu2=>
    bIf ((!u2.1)) (
      some (true,())
      ) (
      bnd (ydJ.f n g.2.2.2.1) λu3=>
      some ((!u3.1),())
      )
    ):=(yaj _).trans (by kernel_rfl)
theorem phi (n:Nat):∀ e∈(X n).c.Φ,EntryOk Tryz.prog e:=yah (yab (ydJ.ok n)) (yaz)
theorem ok (n:Nat):FnOk Tryz.prog 181 ia io (fRun (X n) n T Tryz.f181 ia io):=yaM mixed tabIs (phi n) Tryz.func181 (by kernel_rfl) rfl
noncomputable def en (n:Nat):Entry:=yaI 181 ia io (fRun (X n) n T Tryz.f181 ia io)
end ydA
end Go.Proofs.YtcpkhpboemfglaaGreatDoor

namespace Go.Proofs.YtcpkhpboemfglaaGreatDoor
open Go Go.Va Go.Proofs
namespace ybv
abbrev ia:List Ai:=[.dat (.slice yaJ),.fn (.fn 181) []]
abbrev io:List (Nat×Oi):=[(4,.dat (.int .i64))]
abbrev R:Type:=DOut ia io
noncomputable def X (n:Nat):Ctx:=⟨⟨tab,[ydA.en n],0,[]⟩,19,bnOf 0 ia⟩
abbrev g1:List Si:=[.dat 0 (.slice yaJ),.clo 1 (.fn 181) [],.dat 7 (.int .i64),.dat 8 (.int .i64)]
abbrev g2:List Si:=[]
noncomputable def T:CT:=(.s .o (.s (.s .o (.b (.l g1 .o))) (.r g2 .o)))
noncomputable def J1 (n:Nat)(m:Nat):(List (yac))×Int×Int×Unit→Option R:=jL (X n) n T (yaX Tryz.f213) (endK ia io) g1 [1,0,1,0] [] m
noncomputable def J2 (n:Nat):Unit→Option R:=jR (X n) n T (yaX Tryz.f213) (endK ia io) g2 [1,1] []
noncomputable def f (n:Nat)(s_:List (yac)):Option R:=fRun (X n) n T Tryz.f213 ia io (s_,())
theorem e0 (n:Nat)(s_:List (yac)):f n s_ =
  J1 n n (s_,((s_.length:Nat):Int),0,()):=(yaj _).trans (by kernel_rfl)
theorem e1 (n m:Nat) (s_:List (yac)) (t7:Int) (t8:Int):J1 n (m+1) (s_,t7,t8,()) =
  bIf ((hide (decide (t8<t7)))) (
    gIf (0≤t8∧t8<((s_.length:Nat):Int)) (
      bnd (ydA.f n (List.getD s_ t8.toNat (Va.dflt yaJ))) λu1=>
      bIf (u1.1) (
        some (t8,())
        ) (
        J1 n m (s_,t7,(IntKind.i64.wrap (t8+(1:Int))),())
        )
      )
    ) (
    J2 n (())
    ):=(yaj _).trans (by kernel_rfl)
theorem e2 (n:Nat):J2 n (()) =
  some ((-1),()):=(yaj _).trans (by kernel_rfl)
theorem phi (n:Nat):∀ e∈(X n).c.Φ,EntryOk Tryz.prog e:=yah (yab (ydA.ok n)) (yaz)
theorem ok (n:Nat):FnOk Tryz.prog 213 ia io (fRun (X n) n T Tryz.f213 ia io):=yaM mixed tabIs (phi n) Tryz.func213 (by kernel_rfl) rfl
noncomputable def en (n:Nat):Entry:=yaI 213 ia io (fRun (X n) n T Tryz.f213 ia io)
end ybv
end Go.Proofs.YtcpkhpboemfglaaGreatDoor

namespace Go.Proofs.YtcpkhpboemfglaaGreatDoor
open Go Go.Va Go.Proofs
namespace yb5
abbrev ia:List Ai:=[.dat (.slice yaJ),.fn (.fn 181) []]
abbrev io:List (Nat×Oi):=[(4,.dat .bool)]
abbrev R:Type:=DOut ia io
noncomputable def X (n:Nat):Ctx:=⟨⟨tab,[ybv.en n],0,[]⟩,9,bnOf 0 ia⟩
noncomputable def T:CT := .o
noncomputable def f (n:Nat)(s_:List (yac)):Option R:=fRun (X n) n T Tryz.f180 ia io (s_,())
theorem e0 (n:Nat)(s_:List (yac)):f n s_ =
  bnd (ybv.f n s_) λu1=>
  some ((hide (decide (u1.1≥(0:Int)))),()):=(yaj _).trans (by kernel_rfl)
theorem phi (n:Nat):∀ e∈(X n).c.Φ,EntryOk Tryz.prog e:=yah (yab (ybv.ok n)) (yaz)
theorem ok (n:Nat):FnOk Tryz.prog 180 ia io (fRun (X n) n T Tryz.f180 ia io):=yaM mixed tabIs (phi n) Tryz.func180 (by kernel_rfl) rfl
noncomputable def en (n:Nat):Entry:=yaI 180 ia io (fRun (X n) n T Tryz.f180 ia io)
end yb5
end Go.Proofs.YtcpkhpboemfglaaGreatDoor

namespace Go.Proofs.YtcpkhpboemfglaaGreatDoor
open Go Go.Va Go.Proofs
namespace ydK
abbrev ia:List Ai:=[.dat (.slice yaJ)]
abbrev io:List (Nat×Oi):=[(2,.dat .bool)]
abbrev R:Type:=DOut ia io
noncomputable def X (n:Nat):Ctx:=⟨⟨tab,[yb5.en n],0,[]⟩,11,bnOf 0 ia⟩
noncomputable def T:CT := .o
noncomputable def f (n:Nat)(list:List (yac)):Option R:=fRun (X n) n T Tryz.f126 ia io (list,())
theorem e0 (n:Nat)(list:List (yac)):f n list =
  bIf ((hide (decide (((list.length:Nat):Int)≤(8:Int))))) (
    bnd (yb5.f n list) λu1=>
    some ((!u1.1),())
    ) (
    some (false,())
    ):=(yaj _).trans (by kernel_rfl)
theorem phi (n:Nat):∀ e∈(X n).c.Φ,EntryOk Tryz.prog e:=yah (yab (yb5.ok n)) (yaz)
theorem ok (n:Nat):FnOk Tryz.prog 126 ia io (fRun (X n) n T Tryz.f126 ia io):=yaM mixed tabIs (phi n) Tryz.func126 (by kernel_rfl) rfl
noncomputable def en (n:Nat):Entry:=yaI 126 ia io (fRun (X n) n T Tryz.f126 ia io)
end ydK
end Go.Proofs.YtcpkhpboemfglaaGreatDoor

namespace Go.Proofs.YtcpkhpboemfglaaGreatDoor
open Go Go.Va Go.Proofs
namespace yct
abbrev ia:List Ai:=[.dat (.slice yaJ)]
abbrev io:List (Nat×Oi):=[(2,.dat .bool)]
abbrev R:Type:=DOut ia io
noncomputable def X (n:Nat):Ctx:=⟨⟨tab,[ydq.en n],0,[]⟩,38,bnOf 0 ia⟩
abbrev g1:List Si:=[.dat 0 (.slice yaJ),.dat 3 (.int .i64)]
abbrev g2:List Si:=[.dat 0 (.slice yaJ),.dat 3 (.int .i64)]
abbrev g3:List Si:=[]
noncomputable def T:CT:=(.s .o (.s .o (.s (.s .o (.b (.l g1 (.s .o (.s .o (.r g2 .o)))))) (.r g3 .o))))
noncomputable def J1 (n:Nat)(m:Nat):(List (yac))×Int×Unit→Option R:=jL (X n) n T (yaX Tryz.f56) (endK ia io) g1 [1,1,0,1,0] [] m
noncomputable def J2 (n m1:Nat):(List (yac))×Int×Unit→Option R:=jR (X n) n T (yaX Tryz.f56) (endK ia io) g2 [1,1,0,1,0,0,1,1] [m1]
noncomputable def J3 (n:Nat):Unit→Option R:=jR (X n) n T (yaX Tryz.f56) (endK ia io) g3 [1,1,1] []
noncomputable def f (n:Nat)(l:List (yac)):Option R:=fRun (X n) n T Tryz.f56 ia io (l,())
theorem e0 (n:Nat)(l:List (yac)):f n l =
  bIf ((hide (decide (((l.length:Nat):Int)>(8:Int))))) (
    some (false,())
    ) (
    J1 n n (l,0,())
    ):=(yaj _).trans (by kernel_rfl)
theorem e1 (n m : Nat) (l:List (yac)) (i:Int):J1 n (m+1) (l,i,()) =
  bIf ((hide (decide (i<((l.length:Nat):Int))))) (
    gIf (0≤i∧i<((l.length:Nat):Int)) (
      bnd (ydq.f n (((List.getD l i.toNat (Va.dflt yaJ)).2).1)) λu1=>
      bIf ((!u1.1)) (
        some (false,())
        ) (
        gIf (0≤i∧i<((l.length:Nat):Int)) (
          bnd (ydq.f n ((((List.getD l i.toNat (Va.dflt yaJ)).2).2).1)) λu2=>
          bIf ((!u2.1)) (
            some (false,())
            ) (
            gIf (0≤i∧i<((l.length:Nat):Int)) (
              bnd (ydq.f n (((((List.getD l i.toNat (Va.dflt yaJ)).2).2).2).1)) λu3=>
              bIf ((!u3.1)) (
                some (false,())
                ) (
                J2 n m (l,i,())
                )
              )
            )
          )
        )
      )
    ) (
    J3 n (())
    ):=(yaj _).trans (by kernel_rfl)
theorem e2 (n m1:Nat)(l:List (yac))(i:Int):J2 n m1 (l,i,()) =
  J1 n m1 (l,(IntKind.i64.wrap (i+(1:Int))),()):=(yaj _).trans (by kernel_rfl)
theorem e3 (n:Nat):J3 n (()) =
  some (true,()):=(yaj _).trans (by kernel_rfl)
theorem phi (n:Nat):∀ e∈(X n).c.Φ,EntryOk Tryz.prog e:=yah (yab (ydq.ok n)) (yaz)
theorem ok (n:Nat):FnOk Tryz.prog 56 ia io (fRun (X n) n T Tryz.f56 ia io):=yaM mixed tabIs (phi n) Tryz.func56 (by kernel_rfl) rfl
noncomputable def en (n:Nat):Entry:=yaI 56 ia io (fRun (X n) n T Tryz.f56 ia io)
end yct
end Go.Proofs.YtcpkhpboemfglaaGreatDoor

namespace Go.Proofs.YtcpkhpboemfglaaGreatDoor
open Go Go.Va Go.Proofs
namespace ycz
abbrev ia:List Ai:=[.dat .str]
abbrev io:List (Nat×Oi):=[(2,.dat .bool)]
abbrev R:Type:=DOut ia io
noncomputable def X (n:Nat):Ctx:=⟨⟨tab,[yer.en,yeO.en],0,[]⟩,30,bnOf 0 ia⟩
abbrev g1:List Si:=[.val 11 (.r 201100 .str),.dat 12 (.int .i64),.dat 13 (.int .i64)]
abbrev g2:List Si:=[]
noncomputable def T:CT:=(.s .o (.s .o (.s .o (.s (.s .o (.b (.l g1 .o))) (.r g2 .o)))))
noncomputable def J1 (n:Nat)(m:Nat):(List (ByteArray))×Int×Int×Unit→Option R:=jL (X n) n T (yaX Tryz.f120) (endK ia io) g1 [1,1,1,0,1,0] [] m
noncomputable def J2 (n:Nat):Unit→Option R:=jR (X n) n T (yaX Tryz.f120) (endK ia io) g2 [1,1,1,1] []
noncomputable def f (n:Nat)(s_:ByteArray):Option R:=fRun (X n) n T Tryz.f120 ia io (s_,())
theorem e0 (n:Nat)(s_:ByteArray):f n s_ =
  bnd (yer.f s_ (⟨#[46]⟩:ByteArray)) λu1=>
  bIf ((hide (((u1.1.length:Nat):Int) != (4:Int)))) (
    some (false,())
    ) (
    J1 n n (u1.1,((u1.1.length:Nat):Int),0,())
    ):=(yaj _).trans (by kernel_rfl)
theorem e1 (n m:Nat) (t11:List (ByteArray)) (t12:Int) (t13:Int):J1 n (m+1) (t11,t12,t13,()) =
  bIf ((hide (decide (t13<t12)))) (
    gIf (0≤t13∧t13<((t11.length:Nat):Int)) (
      bIf ((hide (eqS (List.getD t11 (0+t13.toNat) (⟨#[]⟩:ByteArray)) (⟨#[]⟩:ByteArray)))) (
        some (false,())
        ) (
        bIf ((hide (decide (((List.getD t11 (0+t13.toNat) (⟨#[]⟩:ByteArray)).size:Int)>(3:Int))))) (
          some (false,())
          ) (
          bnd (yeO.f (List.getD t11 (0+t13.toNat) (⟨#[]⟩:ByteArray)) (⟨#[48,49,50,51,52,53,54,55,56,57]⟩:ByteArray)) λu1=>
          bIf ((hide (!eqS u1.1 (⟨#[]⟩:ByteArray)))) (
            some (false,())
            ) (
            J1 n m (t11,t12,(IntKind.i64.wrap (t13+(1:Int))),())
            )
          )
        )
      )
    ) (
    J2 n (())
    ):=(yaj _).trans (by kernel_rfl)
theorem e2 (n:Nat):J2 n (()) =
  some (true,()):=(yaj _).trans (by kernel_rfl)
theorem phi (n:Nat):∀ e∈(X n).c.Φ,EntryOk Tryz.prog e:=yah (yab (yer.ok)) (yah (yab (yeO.ok)) (yaz))
theorem ok (n:Nat):FnOk Tryz.prog 120 ia io (fRun (X n) n T Tryz.f120 ia io):=yaM mixed tabIs (phi n) Tryz.func120 (by kernel_rfl) rfl
noncomputable def en (n:Nat):Entry:=yaI 120 ia io (fRun (X n) n T Tryz.f120 ia io)
end ycz
end Go.Proofs.YtcpkhpboemfglaaGreatDoor

namespace Go.Proofs.YtcpkhpboemfglaaGreatDoor
open Go Go.Va Go.Proofs
namespace ydY
abbrev ia:List Ai:=[.dat .str,.dat (.int .u8)]
abbrev io:List (Nat×Oi):=[(4,.dat .bool)]
abbrev R:Type:=DOut ia io
noncomputable def X (n:Nat):Ctx:=⟨⟨tab,[ydS.en],0,[]⟩,9,bnOf 0 ia⟩
noncomputable def T:CT := .o
noncomputable def f (n:Nat)(some_:ByteArray)(b:Int):Option R:=fRun (X n) n T Tryz.f121 ia io (some_,b,())
theorem e0 (n:Nat)(some_:ByteArray)(b:Int):f n some_ b =
  bnd (ydS.f some_ b) λu1=>
  some ((hide (decide (u1.1≥(0:Int)))),()):=(yaj _).trans (by kernel_rfl)
theorem phi (n:Nat):∀ e∈(X n).c.Φ,EntryOk Tryz.prog e:=yah (yab (ydS.ok)) (yaz)
theorem ok (n:Nat):FnOk Tryz.prog 121 ia io (fRun (X n) n T Tryz.f121 ia io):=yaM mixed tabIs (phi n) Tryz.func121 (by kernel_rfl) rfl
noncomputable def en (n:Nat):Entry:=yaI 121 ia io (fRun (X n) n T Tryz.f121 ia io)
end ydY
end Go.Proofs.YtcpkhpboemfglaaGreatDoor

namespace Go.Proofs.YtcpkhpboemfglaaGreatDoor
open Go Go.Va Go.Proofs
namespace ybR
abbrev ia:List Ai:=[.dat .str]
abbrev io:List (Nat×Oi):=[(2,.dat .bool)]
abbrev R:Type:=DOut ia io
noncomputable def X (n:Nat):Ctx:=⟨⟨tab,[ycz.en n,ydY.en n],0,[]⟩,68,bnOf 0 ia⟩
abbrev g1:List Si:=[.dat 0 .str]
abbrev g2:List Si:=[.dat 0 .str,.dat 18 (.int .i64),.dat 19 (.int .i64)]
abbrev g3:List Si:=[.dat 0 .str,.dat 3 (.int .i64),.dat 18 (.int .i64),.dat 19 (.int .i64)]
abbrev g4:List Si:=[]
noncomputable def T:CT:=(.s .o (.s .o (.r g1 (.s (.s .o (.b (.l g2 (.s .o (.s .o (.s (.b (.s .o (.s .o (.s .o (.r g3 .o))))) .o)))))) (.r g4 .o)))))
noncomputable def J1 (n:Nat):ByteArray×Unit→Option R:=jR (X n) n T (yaX Tryz.f43) (endK ia io) g1 [1,1] []
noncomputable def J2 (n:Nat)(m:Nat):ByteArray×Int×Int×Unit→Option R:=jL (X n) n T (yaX Tryz.f43) (endK ia io) g2 [1,1,0,1,0] [] m
noncomputable def J3 (n m2:Nat):ByteArray×Int×Int×Int×Unit→Option R:=jR (X n) n T (yaX Tryz.f43) (endK ia io) g3 [1,1,0,1,0,0,1,1,0,0,1,1,1] [m2]
noncomputable def J4 (n:Nat):Unit→Option R:=jR (X n) n T (yaX Tryz.f43) (endK ia io) g4 [1,1,1] []
noncomputable def f (n:Nat)(s_:ByteArray):Option R:=fRun (X n) n T Tryz.f43 ia io (s_,())
theorem e0 (n:Nat) (s_:ByteArray):f n s_ =
  bIf ((hide (decide ((s_.size:Int)<(3:Int))))) (
    some (false,())
    ) (
    bIf ((hide (decide ((s_.size:Int)>(63:Int))))) (
      some (false,())
      ) (
      bnd (ycz.f n s_) λu1=>
      bIf (u1.1) (
        some (false,())
        ) (
        J1 n (s_,())
        )
      )
    ):=(yaj _).trans (by kernel_rfl)
theorem e1 (n:Nat)(s_:ByteArray):J1 n (s_,()) =
  J2 n n (s_,(s_.size:Int),0,()):=(yaj _).trans (by kernel_rfl)
theorem e2 (n m : Nat) (s_:ByteArray) (t18:Int) (t19:Int):J2 n (m+1) (s_,t18,t19,()) =
  bIf ((hide (decide (t19<t18)))) (
    gIf (0≤t19∧t19<(s_.size:Int)) (
      bnd (ydY.f n (⟨#[97,98,99,100,101,102,103,104,105,106,107,108,109,110,111,112,113,114,115,116,117,118,119,120,121,122,48,49,50,51,52,53,54,55,56,57]⟩:ByteArray) (bt s_ t19)) λu1=>
      bIf (u1.1) (
        J2 n m (s_,t18,(IntKind.i64.wrap (t19+(1:Int))),())
        ) (
        gIf (0≤t19∧t19<(s_.size:Int)) (
          bIf ((hide ((bt s_ t19) != (45:Int)))) (
            gIf (0≤t19∧t19<(s_.size:Int)) (
              bIf ((hide ((bt s_ t19) != (46:Int)))) (
                some (false,())
                ) (
                bIf ((hide (t19==(0:Int)))) (
                  some (false,())
                  ) (
                  bIf ((hide (t19==(IntKind.i64.wrap ((s_.size:Int)-(1:Int)))))) (
                    some (false,())
                    ) (
                    J3 n m (s_,t19,t18,t19,())
                    )
                  )
                )
              )
            ) (
            bIf ((hide (t19==(0:Int)))) (
              some (false,())
              ) (
              bIf ((hide (t19==(IntKind.i64.wrap ((s_.size:Int)-(1:Int)))))) (
                some (false,())
                ) (
                J3 n m (s_,t19,t18,t19,())
                )
              )
            )
          )
        )
      )
    ) (
    J4 n (())
    ):=(yaj _).trans (by kernel_rfl)
theorem e3 (n m2:Nat) (s_:ByteArray) (i:Int) (t18:Int) (t19:Int):J3 n m2 (s_,i,t18,t19,()) =
  gIf (0≤(IntKind.i64.wrap (i+(1:Int)))∧(IntKind.i64.wrap (i+(1:Int)))<(s_.size:Int)) (
    bIf ((hide ((bt s_ (IntKind.i64.wrap (i+(1:Int))))==(46:Int)))) (
      gIf (0≤i∧i<(s_.size:Int)) (
        bIf ((hide ((bt s_ i)==(46:Int)))) (
          some (false,())
          ) (
          bIf ((hide ((bt s_ (IntKind.i64.wrap (i+(1:Int))))==(46:Int)))) (
            some (false,())
            ) (
            J2 n m2 (s_,t18,(IntKind.i64.wrap (t19+(1:Int))),())
            )
          )
        )
      ) (
      bIf ((hide ((bt s_ (IntKind.i64.wrap (i+(1:Int))))==(45:Int)))) (
        gIf (0≤i∧i<(s_.size:Int)) (
          bIf ((hide ((bt s_ i)==(46:Int)))) (
            some (false,())
            ) (
            bIf ((hide ((bt s_ (IntKind.i64.wrap (i+(1:Int))))==(46:Int)))) (
              some (false,())
              ) (
              J2 n m2 (s_,t18,(IntKind.i64.wrap (t19+(1:Int))),())
              )
            )
          )
        ) (
        J2 n m2 (s_,t18,(IntKind.i64.wrap (t19+(1:Int))),())
        )
      )
    ):=(yaj _).trans (by kernel_rfl)
theorem e4 (n:Nat):J4 n (()) =
  some (true,()):=(yaj _).trans (by kernel_rfl)
theorem phi (n:Nat):∀ e∈(X n).c.Φ,EntryOk Tryz.prog e:=yah (yab (ycz.ok n)) (yah (yab (ydY.ok n)) (yaz))
theorem ok (n:Nat):FnOk Tryz.prog 43 ia io (fRun (X n) n T Tryz.f43 ia io):=yaM mixed tabIs (phi n) Tryz.func43 (by kernel_rfl) rfl
noncomputable def en (n:Nat):Entry:=yaI 43 ia io (fRun (X n) n T Tryz.f43 ia io)
end ybR
end Go.Proofs.YtcpkhpboemfglaaGreatDoor

namespace Go.Proofs.YtcpkhpboemfglaaGreatDoor
open Go Go.Va Go.Proofs
namespace yc9
abbrev ia:List Ai:=[.dat .str]
abbrev io:List (Nat×Oi):=[(2,.dat .bool)]
abbrev R:Type:=DOut ia io
noncomputable def X (n:Nat):Ctx:=⟨⟨tab,[],0,[]⟩,42,bnOf 0 ia⟩
abbrev g1:List Si:=[.dat 0 .str,.dat 3 (.int .i64),.dat 4 (.int .i64),.dat 5 (.int .i64)]
abbrev g2:List Si:=[.dat 0 .str,.dat 3 (.int .i64),.dat 4 (.int .i64),.dat 5 (.int .i64)]
abbrev g3:List Si:=[.dat 3 (.int .i64),.dat 4 (.int .i64)]
noncomputable def T:CT:=(.s .o (.s .o (.s (.s .o (.b (.l g1 (.s .o (.s .o (.r g2 .o)))))) (.r g3 .o))))
noncomputable def J1 (n:Nat)(m:Nat):ByteArray×Int×Int×Int×Unit→Option R:=jL (X n) n T (yaX Tryz.f132) (endK ia io) g1 [1,1,0,1,0] [] m
noncomputable def J2 (n m1:Nat):ByteArray×Int×Int×Int×Unit→Option R:=jR (X n) n T (yaX Tryz.f132) (endK ia io) g2 [1,1,0,1,0,0,1,1] [m1]
noncomputable def J3 (n:Nat):Int×Int×Unit→Option R:=jR (X n) n T (yaX Tryz.f132) (endK ia io) g3 [1,1,1] []
noncomputable def f (n:Nat)(s_:ByteArray):Option R:=fRun (X n) n T Tryz.f132 ia io (s_,())
theorem e0 (n:Nat)(s_:ByteArray):f n s_ =
  J1 n n (s_,0,0,0,()):=(yaj _).trans (by kernel_rfl)
theorem e1 (n m : Nat) (s_:ByteArray) (points:Int) (digits:Int) (i:Int):J1 n (m+1) (s_,points,digits,i,()) =
  bIf ((hide (decide (i<(s_.size:Int))))) (
    gIf (0≤i∧i<(s_.size:Int)) (
      bIf ((hide ((bt s_ i)==(46:Int)))) (
        bIf ((hide (digits==(0:Int)))) (
          some (false,())
          ) (
          J2 n m (s_,(IntKind.i64.wrap (points+(1:Int))),0,i,())
          )
        ) (
        gIf (0≤i∧i<(s_.size:Int)) (
          bIf ((hide (decide ((bt s_ i)<(48:Int))))) (
            some (false,())
            ) (
            gIf (0≤i∧i<(s_.size:Int)) (
              bIf ((hide (decide ((bt s_ i)>(57:Int))))) (
                some (false,())
                ) (
                bIf ((hide (decide ((IntKind.i64.wrap (digits+(1:Int)))>(3:Int))))) (
                  some (false,())
                  ) (
                  J2 n m (s_,points,(IntKind.i64.wrap (digits+(1:Int))),i,())
                  )
                )
              )
            )
          )
        )
      )
    ) (
    J3 n (points,digits,())
    ):=(yaj _).trans (by kernel_rfl)
theorem e2 (n m1:Nat)(s_:ByteArray)(points:Int)(digits:Int)(i:Int):J2 n m1 (s_,points,digits,i,()) =
  J1 n m1 (s_,points,digits,(IntKind.i64.wrap (i+(1:Int))),()):=(yaj _).trans (by kernel_rfl)
theorem e3 (n:Nat)(points:Int)(digits:Int):J3 n (points,digits,()) =
  bIf ((hide (points==(3:Int)))) (
    some ((hide (decide (digits>(0:Int)))),())
    ) (
    some (false,())
    ):=(yaj _).trans (by kernel_rfl)
theorem phi (n:Nat):∀ e∈(X n).c.Φ,EntryOk Tryz.prog e:=yaz
theorem ok (n:Nat):FnOk Tryz.prog 132 ia io (fRun (X n) n T Tryz.f132 ia io):=yaM mixed tabIs (phi n) Tryz.func132 (by kernel_rfl) rfl
noncomputable def en (n:Nat):Entry:=yaI 132 ia io (fRun (X n) n T Tryz.f132 ia io)
end yc9
end Go.Proofs.YtcpkhpboemfglaaGreatDoor

namespace Go.Proofs.YtcpkhpboemfglaaGreatDoor
open Go Go.Va Go.Proofs
namespace ydB
abbrev ia:List Ai:=[.dat (.int .u8)]
abbrev io:List (Nat×Oi):=[(2,.dat .bool)]
abbrev R:Type:=DOut ia io
noncomputable def X (n:Nat):Ctx:=⟨⟨tab,[],0,[]⟩,17,bnOf 0 ia⟩
noncomputable def T:CT := .o
noncomputable def f (n:Nat)(b:Int):Option R:=fRun (X n) n T Tryz.f131 ia io (b,())
theorem e0 (n:Nat) (b:Int):f n b =
  bIf ((hide (decide (b≥(97:Int))))) (
    bIf ((hide (decide (b≤(122:Int))))) (
      some (true,())
      ) (
      bIf ((hide (decide (b≥(48:Int))))) (
        some ((hide (decide (b≤(57:Int)))),())
        ) (
        some (false,())
        )
      )
    ) (
    bIf ((hide (decide (b≥(48:Int))))) (
      some ((hide (decide (b≤(57:Int)))),())
      ) (
      some (false,())
      )
    ):=(yaj _).trans (by kernel_rfl)
theorem phi (n:Nat):∀ e∈(X n).c.Φ,EntryOk Tryz.prog e:=yaz
theorem ok (n:Nat):FnOk Tryz.prog 131 ia io (fRun (X n) n T Tryz.f131 ia io):=yaM mixed tabIs (phi n) Tryz.func131 (by kernel_rfl) rfl
noncomputable def en (n:Nat):Entry:=yaI 131 ia io (fRun (X n) n T Tryz.f131 ia io)
end ydB
end Go.Proofs.YtcpkhpboemfglaaGreatDoor

namespace Go.Proofs.YtcpkhpboemfglaaGreatDoor
open Go Go.Va Go.Proofs
namespace ybQ
abbrev ia:List Ai:=[.dat .str]
abbrev io:List (Nat×Oi):=[(2,.dat .bool)]
abbrev R:Type:=DOut ia io
noncomputable def X (n:Nat):Ctx:=⟨⟨tab,[ydB.en n,yc9.en n],0,[]⟩,85,bnOf 0 ia⟩
abbrev g1:List Si:=[.dat 0 .str]
abbrev g2:List Si:=[.dat 0 .str,.dat 3 (.int .i64)]
abbrev g3:List Si:=[.dat 0 .str,.dat 3 (.int .i64)]
abbrev g4:List Si:=[.dat 0 .str,.dat 3 (.int .i64)]
abbrev g5:List Si:=[]
noncomputable def T:CT:=(.s .o (.s .o (.r g1 (.s (.s .o (.b (.l g2 (.s .o (.s (.b (.s .o (.r g3 .o))) (.r g4 .o)))))) (.r g5 .o)))))
noncomputable def J1 (n:Nat):ByteArray×Unit→Option R:=jR (X n) n T (yaX Tryz.f47) (endK ia io) g1 [1,1] []
noncomputable def J2 (n:Nat)(m:Nat):ByteArray×Int×Unit→Option R:=jL (X n) n T (yaX Tryz.f47) (endK ia io) g2 [1,1,0,1,0] [] m
noncomputable def J3 (n m2:Nat):ByteArray×Int×Unit→Option R:=jR (X n) n T (yaX Tryz.f47) (endK ia io) g3 [1,1,0,1,0,0,1,0,0,1] [m2]
noncomputable def J4 (n m2:Nat):ByteArray×Int×Unit→Option R:=jR (X n) n T (yaX Tryz.f47) (endK ia io) g4 [1,1,0,1,0,0,1,1] [m2]
noncomputable def J5 (n:Nat):Unit→Option R:=jR (X n) n T (yaX Tryz.f47) (endK ia io) g5 [1,1,1] []
noncomputable def f (n:Nat)(s_:ByteArray):Option R:=fRun (X n) n T Tryz.f47 ia io (s_,())
theorem e0 (n : Nat) (s_:ByteArray):f n s_ =
  bIf ((hide (decide ((s_.size:Int)<(3:Int))))) (
    some (false,())
    ) (
    bIf ((hide (decide ((s_.size:Int)>(63:Int))))) (
      some (false,())
      ) (
      gIf (0≤(0:Int)∧(0:Int)<(s_.size:Int)) (
        bnd (ydB.f n (bt s_ 0)) λu1=>
        bIf ((!u1.1)) (
          some (false,())
          ) (
          gIf (0≤(IntKind.i64.wrap ((s_.size:Int)-(1:Int)))∧(IntKind.i64.wrap ((s_.size:Int)-(1:Int)))<(s_.size:Int)) (
            bnd (ydB.f n (bt s_ (IntKind.i64.wrap ((s_.size:Int)-(1:Int))))) λu2=>
            bIf ((!u2.1)) (
              some (false,())
              ) (
              bnd (yc9.f n s_) λu3=>
              bIf (u3.1) (
                some (false,())
                ) (
                J1 n (s_,())
                )
              )
            )
          )
        )
      )
    ):=(yaj _).trans (by kernel_rfl)
theorem e1 (n:Nat)(s_:ByteArray):J1 n (s_,()) =
  J2 n n (s_,0,()):=(yaj _).trans (by kernel_rfl)
theorem e2 (n m : Nat) (s_:ByteArray) (i:Int):J2 n (m+1) (s_,i,()) =
  bIf ((hide (decide (i<(s_.size:Int))))) (
    gIf (0≤i∧i<(s_.size:Int)) (
      bnd (ydB.f n (bt s_ i)) λu1=>
      bIf ((!u1.1)) (
        gIf (0≤i∧i<(s_.size:Int)) (
          bIf ((hide ((bt s_ i) != (45:Int)))) (
            gIf (0≤i∧i<(s_.size:Int)) (
              bIf ((hide ((bt s_ i) != (46:Int)))) (
                some (false,())
                ) (
                J3 n m (s_,i,())
                )
              )
            ) (
            J3 n m (s_,i,())
            )
          )
        ) (
        J3 n m (s_,i,())
        )
      )
    ) (
    J5 n (())
    ):=(yaj _).trans (by kernel_rfl)
theorem e3 (n m2:Nat) (s_:ByteArray) (i:Int):J3 n m2 (s_,i,()) =
  bIf ((hide (decide (i>(0:Int))))) (
    gIf (0≤i∧i<(s_.size:Int)) (
      bnd (ydB.f n (bt s_ i)) λu1=>
      bIf ((!u1.1)) (
        gIf (0≤(IntKind.i64.wrap (i-(1:Int)))∧(IntKind.i64.wrap (i-(1:Int)))<(s_.size:Int)) (
          bnd (ydB.f n (bt s_ (IntKind.i64.wrap (i-(1:Int))))) λu2=>
          bIf ((!u2.1)) (
            gIf (0≤i∧i<(s_.size:Int)) (
              bIf ((hide ((bt s_ i)==(45:Int)))) (
                gIf (0≤(IntKind.i64.wrap (i-(1:Int)))∧(IntKind.i64.wrap (i-(1:Int)))<(s_.size:Int)) (
                  bIf ((!(hide ((bt s_ (IntKind.i64.wrap (i-(1:Int))))==(45:Int))))) (
                    some (false,())
                    ) (
                    J4 n m2 (s_,i,())
                    )
                  )
                ) (
                some (false,())
                )
              )
            ) (
            J4 n m2 (s_,i,())
            )
          )
        ) (
        J4 n m2 (s_,i,())
        )
      )
    ) (
    J4 n m2 (s_,i,())
    ):=(yaj _).trans (by kernel_rfl)
theorem e4 (n m2:Nat)(s_:ByteArray)(i:Int):J4 n m2 (s_,i,()) =
  J2 n m2 (s_,(IntKind.i64.wrap (i+(1:Int))),()):=(yaj _).trans (by kernel_rfl)
theorem e5 (n:Nat):J5 n (()) =
  some (true,()):=(yaj _).trans (by kernel_rfl)
theorem phi (n:Nat):∀ e∈(X n).c.Φ,EntryOk Tryz.prog e:=yah (yab (ydB.ok n)) (yah (yab (yc9.ok n)) (yaz))
theorem ok (n:Nat):FnOk Tryz.prog 47 ia io (fRun (X n) n T Tryz.f47 ia io):=yaM mixed tabIs (phi n) Tryz.func47 (by kernel_rfl) rfl
noncomputable def en (n:Nat):Entry:=yaI 47 ia io (fRun (X n) n T Tryz.f47 ia io)
end ybQ
end Go.Proofs.YtcpkhpboemfglaaGreatDoor

namespace Go.Proofs.YtcpkhpboemfglaaGreatDoor
open Go Go.Va Go.Proofs
namespace yb3
abbrev ia:List Ai:=[.dat (.slice yaJ),.dat (.slice yaJ)]
abbrev io:List (Nat×Oi):=[(4,.dat .bool)]
abbrev R:Type:=DOut ia io
noncomputable def X (n:Nat):Ctx:=⟨⟨tab,[],0,[]⟩,26,bnOf 0 ia⟩
abbrev g1:List Si:=[.dat 0 (.slice yaJ),.dat 1 (.slice yaJ),.dat 5 (.int .i64)]
abbrev g2:List Si:=[]
noncomputable def T:CT:=(.s .o (.s .o (.s (.s .o (.b (.l g1 .o))) (.r g2 .o))))
noncomputable def J1 (n:Nat)(m:Nat):(List (yac))×(List (yac))×Int×Unit→Option R:=jL (X n) n T (yaX Tryz.f64) (endK ia io) g1 [1,1,0,1,0] [] m
noncomputable def J2 (n:Nat):Unit→Option R:=jR (X n) n T (yaX Tryz.f64) (endK ia io) g2 [1,1,1] []
noncomputable def f (n:Nat)(a:List (yac))(b:List (yac)):Option R:=fRun (X n) n T Tryz.f64 ia io (a,b,())
theorem e0 (n:Nat)(a:List (yac))(b:List (yac)):f n a b =
  bIf ((hide (((a.length:Nat):Int) != ((b.length:Nat):Int)))) (
    some (false,())
    ) (
    J1 n n (a,b,0,())
    ):=(yaj _).trans (by kernel_rfl)
theorem e1 (n m:Nat) (a:List (yac)) (b:List (yac)) (i:Int):J1 n (m+1) (a,b,i,()) =
  bIf ((hide (decide (i<((a.length:Nat):Int))))) (
    gIf (0≤i∧i<((a.length:Nat):Int)) (
      gIf (0≤i∧i<((b.length:Nat):Int)) (
        bIf ((hide (!(eqD yaJ (List.getD a i.toNat (Va.dflt yaJ)) (List.getD b i.toNat (Va.dflt yaJ)))))) (
          some (false,())
          ) (
          J1 n m (a,b,(IntKind.i64.wrap (i+(1:Int))),())
          )
        )
      )
    ) (
    J2 n (())
    ):=(yaj _).trans (by kernel_rfl)
theorem e2 (n:Nat):J2 n (()) =
  some (true,()):=(yaj _).trans (by kernel_rfl)
theorem phi (n:Nat):∀ e∈(X n).c.Φ,EntryOk Tryz.prog e:=yaz
theorem ok (n:Nat):FnOk Tryz.prog 64 ia io (fRun (X n) n T Tryz.f64 ia io):=yaM mixed tabIs (phi n) Tryz.func64 (by kernel_rfl) rfl
noncomputable def en (n:Nat):Entry:=yaI 64 ia io (fRun (X n) n T Tryz.f64 ia io)
end yb3
end Go.Proofs.YtcpkhpboemfglaaGreatDoor

namespace Go.Proofs.YtcpkhpboemfglaaGreatDoor
open Go Go.Va Go.Proofs
namespace yb1
abbrev ia:List Ai:=[.dat (.slice yaF),.dat (.slice yaF)]
abbrev io:List (Nat×Oi):=[(4,.dat .bool)]
abbrev R:Type:=DOut ia io
noncomputable def X (n:Nat):Ctx:=⟨⟨tab,[ycb.en n],0,[]⟩,81,bnOf 0 ia⟩
abbrev g1:List Si:=[.dat 0 (.slice yaF),.dat 1 (.slice yaF),.dat 5 (.int .i64)]
abbrev g2:List Si:=[.dat 0 (.slice yaF),.dat 1 (.slice yaF),.dat 5 (.int .i64)]
abbrev g3:List Si:=[]
noncomputable def T:CT:=(.s .o (.s .o (.s (.s .o (.b (.l g1 (.s .o (.s .o (.r g2 .o)))))) (.r g3 .o))))
noncomputable def J1 (n:Nat)(m:Nat):(List (yag))×(List (yag))×Int×Unit→Option R:=jL (X n) n T (yaX Tryz.f63) (endK ia io) g1 [1,1,0,1,0] [] m
noncomputable def J2 (n m1:Nat):(List (yag))×(List (yag))×Int×Unit→Option R:=jR (X n) n T (yaX Tryz.f63) (endK ia io) g2 [1,1,0,1,0,0,1,1] [m1]
noncomputable def J3 (n:Nat):Unit→Option R:=jR (X n) n T (yaX Tryz.f63) (endK ia io) g3 [1,1,1] []
noncomputable def f (n:Nat)(a:List (yag))(b:List (yag)):Option R:=fRun (X n) n T Tryz.f63 ia io (a,b,())
theorem e0 (n:Nat)(a:List (yag))(b:List (yag)):f n a b =
  bIf ((hide (((a.length:Nat):Int) != ((b.length:Nat):Int)))) (
    some (false,())
    ) (
    J1 n n (a,b,0,())
    ):=(yaj _).trans (by kernel_rfl)
theorem e1 (n m : Nat) (a : List (yag)) (b:List (yag)) (i:Int):J1 n (m+1) (a,b,i,()) =
  bIf ((hide (decide (i < ((a.length:Nat):Int))))) (
    gIf (0 ≤ i ∧ i < ((a.length : Nat):Int)) (
      gIf (0 ≤ i ∧ i < ((b.length : Nat):Int)) (
        bIf ((hide (!eqS ((List.getD a i.toNat (Va.dflt yaF)).1) ((List.getD b i.toNat (Va.dflt yaF)).1)))) (
          some (false,())
          ) (
          gIf (0≤i∧i<((a.length:Nat):Int)) (
            gIf (0≤i∧i<((b.length:Nat):Int)) (
              bnd (ycb.f n (((List.getD a i.toNat (Va.dflt yaF)).2).1) (((List.getD b i.toNat (Va.dflt yaF)).2).1)) λu1=>
              bIf ((!u1.1)) (
                some (false,())
                ) (
                gIf (0≤i∧i<((a.length:Nat):Int)) (
                  gIf (0≤i∧i<((b.length:Nat):Int)) (
                    bIf ((hide (((((List.getD a i.toNat (Va.dflt yaF)).2).2).1) != ((((List.getD b i.toNat (Va.dflt yaF)).2).2).1)))) (
                      some (false,())
                      ) (
                      gIf (0≤i∧i<((a.length:Nat):Int)) (
                        gIf (0≤i∧i<((b.length:Nat):Int)) (
                          bIf ((hide ((((((List.getD a i.toNat (Va.dflt yaF)).2).2).2).1) != (((((List.getD b i.toNat (Va.dflt yaF)).2).2).2).1)))) (
                            some (false,())
                            ) (
                            gIf (0≤i∧i<((a.length:Nat):Int)) (
                              gIf (0≤i∧i<((b.length:Nat):Int)) (
                                bIf ((hide (!(((((((List.getD a i.toNat (Va.dflt yaF)).2).2).2).2).1)==((((((List.getD b i.toNat (Va.dflt yaF)).2).2).2).2).1))))) (
                                  some (false,())
                                  ) (
                                  J2 n m (a,b,i,())
                                  )
                                )
                              )
                            )
                          )
                        )
                      )
                    )
                  )
                )
              )
            )
          )
        )
      )
    ) (
    J3 n (())
    ):=(yaj _).trans (by kernel_rfl)
theorem e2 (n m1:Nat)(a:List (yag))(b:List (yag))(i:Int):J2 n m1 (a,b,i,()) =
  J1 n m1 (a,b,(IntKind.i64.wrap (i+(1:Int))),()):=(yaj _).trans (by kernel_rfl)
theorem e3 (n:Nat):J3 n (()) =
  some (true,()):=(yaj _).trans (by kernel_rfl)
theorem phi (n:Nat):∀ e∈(X n).c.Φ,EntryOk Tryz.prog e:=yah (yab (ycb.ok n)) (yaz)
theorem ok (n:Nat):FnOk Tryz.prog 63 ia io (fRun (X n) n T Tryz.f63 ia io):=yaM mixed tabIs (phi n) Tryz.func63 (by kernel_rfl) rfl
noncomputable def en (n:Nat):Entry:=yaI 63 ia io (fRun (X n) n T Tryz.f63 ia io)
end yb1
end Go.Proofs.YtcpkhpboemfglaaGreatDoor

namespace Go.Proofs.YtcpkhpboemfglaaGreatDoor
open Go Go.Va Go.Proofs
namespace yds
abbrev ia:List Ai:=[.dat yei,.dat yei]
abbrev io:List (Nat×Oi):=[(4,.dat .bool)]
abbrev R:Type:=DOut ia io
noncomputable def X (n:Nat):Ctx:=⟨⟨tab,[yck.en n,ycb.en n,yb1.en n,yb3.en n],0,[]⟩,85,bnOf 0 ia⟩
abbrev g1:List Si:=[.ref 2 2 yei,.ref 3 3 yei,.box 2 (.d yei),.box 3 (.d yei)]
noncomputable def T:CT:=(.s .o (.s .o (.r g1 .o)))
noncomputable def J1 (n:Nat):yeb×yeb×Unit→Option R:=jR (X n) n T (yaX Tryz.f19) (endK ia io) g1 [1,1] []
noncomputable def f (n:Nat)(a:yeb)(b:yeb):Option R:=fRun (X n) n T Tryz.f19 ia io (a,b,())
theorem e0 (n : Nat) (a:yeb) (b:yeb):f n a b =
  bIf ((hide (a.1 != b.1))) (
    some (false,())
    ) (
    bIf ((hide (a.2.1 != b.2.1))) (
      some (false,())
      ) (
      bIf ((hide (!eqS a.2.2.1 b.2.2.1))) (
        some (false,())
        ) (
        bIf ((hide (!eqS a.2.2.2.1 b.2.2.2.1))) (
          some (false,())
          ) (
          bIf ((hide (a.2.2.2.2.1 != b.2.2.2.2.1))) (
            some (false,())
            ) (
            bIf ((hide (!(eqD yaT a.2.2.2.2.2.2.1 b.2.2.2.2.2.2.1)))) (
              some (false,())
              ) (
              bIf ((hide (!(eqD yaC a.2.2.2.2.2.2.2.2.1 b.2.2.2.2.2.2.2.2.1)))) (
                some (false,())
                ) (
                bIf ((hide (!(eqD T_api_Part a.2.2.2.2.2.2.2.2.2.2.2.1 b.2.2.2.2.2.2.2.2.2.2.2.1)))) (
                  some (false,())
                  ) (
                  J1 n (a,b,())
                  )
                )
              )
            )
          )
        )
      )
    ):=(yaj _).trans (by kernel_rfl)
theorem e1 (n:Nat) (a:yeb) (b:yeb):J1 n (a,b,()) =
  bnd (yck.f n a.2.2.2.2.2.1 b.2.2.2.2.2.1) λu1=>
  bIf (u1.1) (
    bnd (ycb.f n a.2.2.2.2.2.2.2.1 b.2.2.2.2.2.2.2.1) λu2=>
    bIf (u2.1) (
      bnd (yb1.f n a.2.2.2.2.2.2.2.2.2.1 b.2.2.2.2.2.2.2.2.2.1) λu3=>
      bIf (u3.1) (
        bnd (yb3.f n a.2.2.2.2.2.2.2.2.2.2.1 b.2.2.2.2.2.2.2.2.2.2.1) λu4=>
        some (u4.1,())
        ) (
        some (false,())
        )
      ) (
      some (false,())
      )
    ) (
    some (false,())
    ):=(yaj _).trans (by kernel_rfl)
theorem phi (n:Nat):∀ e∈(X n).c.Φ,EntryOk Tryz.prog e:=yah (yab (yck.ok n)) (yah (yab (ycb.ok n)) (yah (yab (yb1.ok n)) (yah (yab (yb3.ok n)) (yaz))))
theorem ok (n:Nat):FnOk Tryz.prog 19 ia io (fRun (X n) n T Tryz.f19 ia io):=yaM mixed tabIs (phi n) Tryz.func19 (by kernel_rfl) rfl
noncomputable def en (n:Nat):Entry:=yaI 19 ia io (fRun (X n) n T Tryz.f19 ia io)
end yds
end Go.Proofs.YtcpkhpboemfglaaGreatDoor

namespace Go.Proofs.YtcpkhpboemfglaaGreatDoor
open Go Go.Va Go.Proofs
namespace ydh
abbrev ia:List Ai:=[.dat yaF,.dat yaF]
abbrev io:List (Nat×Oi):=[(4,.dat .bool)]
abbrev R:Type:=DOut ia io
noncomputable def X (n:Nat):Ctx:=⟨⟨tab,[ycS.en n],0,[]⟩,38,bnOf 0 ia⟩
noncomputable def T:CT := .o
noncomputable def f (n:Nat)(a:yag)(b:yag):Option R:=fRun (X n) n T Tryz.f136 ia io (a,b,())
theorem e0 (n:Nat) (a:yag) (b:yag):f n a b =
  bIf ((hide (eqS a.1 b.1))) (
    bIf ((hide (a.2.2.1==b.2.2.1))) (
      bIf ((hide (a.2.2.2.1==b.2.2.2.1))) (
        bIf ((hide (a.2.2.2.2.1==b.2.2.2.2.1))) (
          bnd (ycS.f n a.2.1 b.2.1) λu1=>
          some (u1.1,())
          ) (
          some (false,())
          )
        ) (
        some (false,())
        )
      ) (
      some (false,())
      )
    ) (
    some (false,())
    ):=(yaj _).trans (by kernel_rfl)
theorem phi (n:Nat):∀ e∈(X n).c.Φ,EntryOk Tryz.prog e:=yah (yab (ycS.ok n)) (yaz)
theorem ok (n:Nat):FnOk Tryz.prog 136 ia io (fRun (X n) n T Tryz.f136 ia io):=yaM mixed tabIs (phi n) Tryz.func136 (by kernel_rfl) rfl
noncomputable def en (n:Nat):Entry:=yaI 136 ia io (fRun (X n) n T Tryz.f136 ia io)
end ydh
end Go.Proofs.YtcpkhpboemfglaaGreatDoor

namespace Go.Proofs.YtcpkhpboemfglaaGreatDoor
open Go Go.Va Go.Proofs
namespace ybA
abbrev ia:List Ai:=[.dat (.slice yaF),.dat (.slice yaF),.fn (.fn 136) []]
abbrev io:List (Nat×Oi):=[(6,.dat .bool)]
abbrev R:Type:=DOut ia io
noncomputable def X (n:Nat):Ctx:=⟨⟨tab,[ydh.en n],0,[]⟩,32,bnOf 0 ia⟩
abbrev g1:List Si:=[.dat 1 (.slice yaF),.clo 2 (.fn 136) [],.dat 15 (.slice yaF),.dat 16 (.int .i64),.dat 17 (.int .i64)]
abbrev g2:List Si:=[]
noncomputable def T:CT:=(.s .o (.s .o (.s (.s .o (.b (.l g1 .o))) (.r g2 .o))))
noncomputable def J1 (n:Nat)(m:Nat):(List (yag))×(List (yag))×Int×Int×Unit→Option R:=jL (X n) n T (yaX Tryz.f135) (endK ia io) g1 [1,1,0,1,0] [] m
noncomputable def J2 (n:Nat):Unit→Option R:=jR (X n) n T (yaX Tryz.f135) (endK ia io) g2 [1,1,1] []
noncomputable def f (n:Nat)(s1:List (yag))(s2:List (yag)):Option R:=fRun (X n) n T Tryz.f135 ia io (s1,s2,())
theorem e0 (n:Nat)(s1:List (yag))(s2:List (yag)):f n s1 s2 =
  bIf ((hide (((s1.length:Nat):Int) != ((s2.length:Nat):Int)))) (
    some (false,())
    ) (
    J1 n n (s2,s1,((s1.length:Nat):Int),0,())
    ):=(yaj _).trans (by kernel_rfl)
theorem e1 (n m:Nat) (s2:List (yag)) (t15:List (yag)) (t16:Int) (t17:Int):J1 n (m+1) (s2,t15,t16,t17,()) =
  bIf ((hide (decide (t17<t16)))) (
    gIf (0≤t17∧t17<((t15.length:Nat):Int)) (
      gIf (0≤t17∧t17<((s2.length:Nat):Int)) (
        bnd (ydh.f n (List.getD t15 t17.toNat (Va.dflt yaF)) (List.getD s2 t17.toNat (Va.dflt yaF))) λu1=>
        bIf ((!u1.1)) (
          some (false,())
          ) (
          J1 n m (s2,t15,t16,(IntKind.i64.wrap (t17+(1:Int))),())
          )
        )
      )
    ) (
    J2 n (())
    ):=(yaj _).trans (by kernel_rfl)
theorem e2 (n:Nat):J2 n (()) =
  some (true,()):=(yaj _).trans (by kernel_rfl)
theorem phi (n:Nat):∀ e∈(X n).c.Φ,EntryOk Tryz.prog e:=yah (yab (ydh.ok n)) (yaz)
theorem ok (n:Nat):FnOk Tryz.prog 135 ia io (fRun (X n) n T Tryz.f135 ia io):=yaM mixed tabIs (phi n) Tryz.func135 (by kernel_rfl) rfl
noncomputable def en (n:Nat):Entry:=yaI 135 ia io (fRun (X n) n T Tryz.f135 ia io)
end ybA
end Go.Proofs.YtcpkhpboemfglaaGreatDoor

namespace Go.Proofs.YtcpkhpboemfglaaGreatDoor
open Go Go.Va Go.Proofs
namespace ydb
abbrev ia:List Ai:=[.dat (.slice yaF),.dat (.slice yaF)]
abbrev io:List (Nat×Oi):=[(4,.dat .bool)]
abbrev R:Type:=DOut ia io
noncomputable def X (n:Nat):Ctx:=⟨⟨tab,[ybA.en n],0,[]⟩,8,bnOf 0 ia⟩
noncomputable def T:CT := .o
noncomputable def f (n:Nat)(a:List (yag))(b:List (yag)):Option R:=fRun (X n) n T Tryz.f60 ia io (a,b,())
theorem e0 (n:Nat)(a:List (yag))(b:List (yag)):f n a b =
  bnd (ybA.f n a b) λu1=>
  some (u1.1,()):=(yaj _).trans (by kernel_rfl)
theorem phi (n:Nat):∀ e∈(X n).c.Φ,EntryOk Tryz.prog e:=yah (yab (ybA.ok n)) (yaz)
theorem ok (n:Nat):FnOk Tryz.prog 60 ia io (fRun (X n) n T Tryz.f60 ia io):=yaM mixed tabIs (phi n) Tryz.func60 (by kernel_rfl) rfl
noncomputable def en (n:Nat):Entry:=yaI 60 ia io (fRun (X n) n T Tryz.f60 ia io)
end ydb
end Go.Proofs.YtcpkhpboemfglaaGreatDoor

namespace Go.Proofs.YtcpkhpboemfglaaGreatDoor
open Go Go.Va Go.Proofs
namespace ybL
abbrev ia:List Ai:=[.dat (.slice yaJ),.dat (.slice yaJ)]
abbrev io:List (Nat×Oi):=[(4,.dat .bool)]
abbrev R:Type:=DOut ia io
noncomputable def X (n:Nat):Ctx:=⟨⟨tab,[],0,[]⟩,26,bnOf 0 ia⟩
abbrev g1:List Si:=[.dat 0 (.slice yaJ),.dat 1 (.slice yaJ),.dat 12 (.int .i64),.dat 13 (.int .i64)]
abbrev g2:List Si:=[]
noncomputable def T:CT:=(.s .o (.s .o (.s (.s .o (.b (.l g1 .o))) (.r g2 .o))))
noncomputable def J1 (n:Nat)(m:Nat):(List (yac))×(List (yac))×Int×Int×Unit→Option R:=jL (X n) n T (yaX Tryz.f61) (endK ia io) g1 [1,1,0,1,0] [] m
noncomputable def J2 (n:Nat):Unit→Option R:=jR (X n) n T (yaX Tryz.f61) (endK ia io) g2 [1,1,1] []
noncomputable def f (n:Nat)(s1:List (yac))(s2:List (yac)):Option R:=fRun (X n) n T Tryz.f61 ia io (s1,s2,())
theorem e0 (n:Nat)(s1:List (yac))(s2:List (yac)):f n s1 s2 =
  bIf ((hide (((s1.length:Nat):Int) != ((s2.length:Nat):Int)))) (
    some (false,())
    ) (
    J1 n n (s1,s2,((s1.length:Nat):Int),0,())
    ):=(yaj _).trans (by kernel_rfl)
theorem e1 (n m:Nat) (s1:List (yac)) (s2:List (yac)) (t12:Int) (t13:Int):J1 n (m+1) (s1,s2,t12,t13,()) =
  bIf ((hide (decide (t13<t12)))) (
    gIf (0≤t13∧t13<((s1.length:Nat):Int)) (
      gIf (0≤t13∧t13<((s2.length:Nat):Int)) (
        bIf ((hide (!(eqD yaJ (List.getD s1 t13.toNat (Va.dflt yaJ)) (List.getD s2 t13.toNat (Va.dflt yaJ)))))) (
          some (false,())
          ) (
          J1 n m (s1,s2,t12,(IntKind.i64.wrap (t13+(1:Int))),())
          )
        )
      )
    ) (
    J2 n (())
    ):=(yaj _).trans (by kernel_rfl)
theorem e2 (n:Nat):J2 n (()) =
  some (true,()):=(yaj _).trans (by kernel_rfl)
theorem phi (n:Nat):∀ e∈(X n).c.Φ,EntryOk Tryz.prog e:=yaz
theorem ok (n:Nat):FnOk Tryz.prog 61 ia io (fRun (X n) n T Tryz.f61 ia io):=yaM mixed tabIs (phi n) Tryz.func61 (by kernel_rfl) rfl
noncomputable def en (n:Nat):Entry:=yaI 61 ia io (fRun (X n) n T Tryz.f61 ia io)
end ybL
end Go.Proofs.YtcpkhpboemfglaaGreatDoor

namespace Go.Proofs.YtcpkhpboemfglaaGreatDoor
open Go Go.Va Go.Proofs
namespace yc6
abbrev ia:List Ai:=[.dat (.int .u64)]
abbrev io:List (Nat×Oi):=[(2,.val (.r 0 (.int .u8)))]
abbrev R:Type:=DOut ia io
noncomputable def X (n:Nat):Ctx:=⟨⟨tab,[],0,[]⟩,19,bnOf 0 ia⟩
abbrev g1:List Si:=[.dat 0 (.int .u64),.val 3 (.r 200300 (.int .u8))]
abbrev g2:List Si:=[.dat 0 (.int .u64),.val 3 (.r 200300 (.int .u8))]
noncomputable def T:CT:=(.s .o (.s .o (.s (.b (.l g1 .o)) (.r g2 .o))))
noncomputable def J1 (n:Nat)(m:Nat):Int×(List (Int))×Unit→Option R:=jL (X n) n T (yaX Tryz.f103) (endK ia io) g1 [1,1,0,0] [] m
noncomputable def J2 (n:Nat):Int×(List (Int))×Unit→Option R:=jR (X n) n T (yaX Tryz.f103) (endK ia io) g2 [1,1,1] []
noncomputable def f (n:Nat)(n_:Int):Option R:=fRun (X n) n T Tryz.f103 ia io (n_,())
theorem e0 (n:Nat)(n_:Int):f n n_ =
  J1 n n (n_,[],()):=(yaj _).trans (by kernel_rfl)
theorem e1 (n m:Nat) (n_:Int) (out:List (Int)):J1 n (m+1) (n_,out,()) =
  bIf ((hide (decide (n_≥(128:Int))))) (
    gIf ((out.length+1)*1≤70368744177664) (
      gNo ((7:Int)<0) (
        J1 n m ((shrI .u64 n_ 7),(out++([(bitI .or .u8 (IntKind.u8.wrap n_) 128)]:List (Int))),())
        )
      )
    ) (
    J2 n (n_,out,())
    ):=(yaj _).trans (by kernel_rfl)
theorem e2 (n:Nat)(n_:Int)(out:List (Int)):J2 n (n_,out,()) =
  gIf ((out.length+1)*1≤70368744177664) (
    some ((out++([(IntKind.u8.wrap n_)]:List (Int))),())
    ):=(yaj _).trans (by kernel_rfl)
theorem phi (n:Nat):∀ e∈(X n).c.Φ,EntryOk Tryz.prog e:=yaz
theorem ok (n:Nat):FnOk Tryz.prog 103 ia io (fRun (X n) n T Tryz.f103 ia io):=yaM mixed tabIs (phi n) Tryz.func103 (by kernel_rfl) rfl
noncomputable def en (n:Nat):Entry:=yaI 103 ia io (fRun (X n) n T Tryz.f103 ia io)
end yc6
end Go.Proofs.YtcpkhpboemfglaaGreatDoor

namespace Go.Proofs.YtcpkhpboemfglaaGreatDoor
open Go Go.Va Go.Proofs
namespace yeZ
abbrev ia:List Ai:=[.dat (.int .i64)]
abbrev io:List (Nat×Oi):=[(2,.dat (.int .u64))]
abbrev R:Type:=DOut ia io
noncomputable def X (n:Nat):Ctx:=⟨⟨tab,[],0,[]⟩,10,bnOf 0 ia⟩
noncomputable def T:CT := .o
noncomputable def f (n:Nat)(n_:Int):Option R:=fRun (X n) n T Tryz.f172 ia io (n_,())
theorem e0 (n:Nat)(n_:Int):f n n_ =
  gNo ((1:Int)<0) (
    gNo ((63:Int)<0) (
      some ((bitI .xor .u64 (shlI .u64 (IntKind.u64.wrap n_) 1) (IntKind.u64.wrap (shrI .i64 n_ 63))),())
      )
    ):=(yaj _).trans (by kernel_rfl)
theorem phi (n:Nat):∀ e∈(X n).c.Φ,EntryOk Tryz.prog e:=yaz
theorem ok (n:Nat):FnOk Tryz.prog 172 ia io (fRun (X n) n T Tryz.f172 ia io):=yaM mixed tabIs (phi n) Tryz.func172 (by kernel_rfl) rfl
noncomputable def en (n:Nat):Entry:=yaI 172 ia io (fRun (X n) n T Tryz.f172 ia io)
end yeZ
end Go.Proofs.YtcpkhpboemfglaaGreatDoor

namespace Go.Proofs.YtcpkhpboemfglaaGreatDoor
open Go Go.Va Go.Proofs
namespace ydv
abbrev ia:List Ai:=[.dat (.int .u64)]
abbrev io:List (Nat×Oi):=[(2,.val (.r 0 (.int .u8)))]
abbrev R:Type:=DOut ia io
noncomputable def X (n:Nat):Ctx:=⟨⟨tab,[],0,[]⟩,27,bnOf 0 ia⟩
abbrev g1:List Si:=[.dat 0 (.int .u64),.val 3 (.r 200300 (.int .u8))]
abbrev g2:List Si:=[.val 3 (.r 200300 (.int .u8))]
noncomputable def T:CT:=(.s .o (.s .o (.s (.b (.l g1 .o)) (.r g2 .o))))
noncomputable def J1 (n:Nat)(m:Nat):Int×(List (Int))×Unit→Option R:=jL (X n) n T (yaX Tryz.f163) (endK ia io) g1 [1,1,0,0] [] m
noncomputable def J2 (n:Nat):(List (Int))×Unit→Option R:=jR (X n) n T (yaX Tryz.f163) (endK ia io) g2 [1,1,1] []
noncomputable def f (n:Nat)(n_:Int):Option R:=fRun (X n) n T Tryz.f163 ia io (n_,())
theorem e0 (n:Nat)(n_:Int):f n n_ =
  gNo ((128:Int)=0) (
    J1 n n (n_,([(IntKind.u8.wrap (Int.tmod n_ 128))]:List (Int)),())
    ):=(yaj _).trans (by kernel_rfl)
theorem e1 (n m:Nat) (n_:Int) (out:List (Int)):J1 n (m+1) (n_,out,()) =
  bIf ((hide (decide (n_≥(128:Int))))) (
    gIf (0≤(IntKind.i64.wrap (((out.length:Nat):Int)-(1:Int)))∧(IntKind.i64.wrap (((out.length:Nat):Int)-(1:Int)))<((out.length:Nat):Int)) (
      gIf (0≤(IntKind.i64.wrap (((out.length:Nat):Int)-(1:Int)))∧(IntKind.i64.wrap (((out.length:Nat):Int)-(1:Int)))<((out.length:Nat):Int)) (
        gNo ((128:Int)=0) (
          gNo ((128:Int)=0) (
            gIf (((List.set out (0+((IntKind.i64.wrap (((out.length:Nat):Int)-(1:Int))).toNat)) (IntKind.u8.wrap ((List.getD out (0+((IntKind.i64.wrap (((out.length:Nat):Int)-(1:Int))).toNat)) 0)+(128:Int)))).length+1)*1≤70368744177664) (
              J1 n m ((IntKind.u64.wrap (Int.tdiv n_ 128)),((List.set out (0+((IntKind.i64.wrap (((out.length:Nat):Int)-(1:Int))).toNat)) (IntKind.u8.wrap ((List.getD out (0+((IntKind.i64.wrap (((out.length:Nat):Int)-(1:Int))).toNat)) 0)+(128:Int))))++([(IntKind.u8.wrap (Int.tmod (IntKind.u64.wrap (Int.tdiv n_ 128)) 128))]:List (Int))),())
              )
            )
          )
        )
      )
    ) (
    J2 n (out,())
    ):=(yaj _).trans (by kernel_rfl)
theorem e2 (n:Nat)(out:List (Int)):J2 n (out,()) =
  some (out,()):=(yaj _).trans (by kernel_rfl)
theorem phi (n:Nat):∀ e∈(X n).c.Φ,EntryOk Tryz.prog e:=yaz
theorem ok (n:Nat):FnOk Tryz.prog 163 ia io (fRun (X n) n T Tryz.f163 ia io):=yaM mixed tabIs (phi n) Tryz.func163 (by kernel_rfl) rfl
noncomputable def en (n:Nat):Entry:=yaI 163 ia io (fRun (X n) n T Tryz.f163 ia io)
end ydv
end Go.Proofs.YtcpkhpboemfglaaGreatDoor

namespace Go.Proofs.YtcpkhpboemfglaaGreatDoor
open Go Go.Va Go.Proofs
namespace yeo
abbrev ia:List Ai:=[.dat (.int .i64)]
abbrev io:List (Nat×Oi):=[(2,.dat (.int .u64))]
abbrev R:Type:=DOut ia io
noncomputable def X (n:Nat):Ctx:=⟨⟨tab,[],0,[]⟩,14,bnOf 0 ia⟩
noncomputable def T:CT := .o
noncomputable def f (n:Nat)(n_:Int):Option R:=fRun (X n) n T Tryz.f173 ia io (n_,())
theorem e0 (n:Nat)(n_:Int):f n n_ =
  bIf ((hide (decide (n_≥(0:Int))))) (
    some ((IntKind.u64.wrap ((2:Int)*(IntKind.u64.wrap n_))),())
    ) (
    some ((IntKind.u64.wrap ((IntKind.u64.wrap ((2:Int)*(IntKind.u64.wrap (IntKind.i64.wrap (0-(IntKind.i64.wrap (n_+(1:Int))))))))+(1:Int))),())
    ):=(yaj _).trans (by kernel_rfl)
theorem phi (n:Nat):∀ e∈(X n).c.Φ,EntryOk Tryz.prog e:=yaz
theorem ok (n:Nat):FnOk Tryz.prog 173 ia io (fRun (X n) n T Tryz.f173 ia io):=yaM mixed tabIs (phi n) Tryz.func173 (by kernel_rfl) rfl
noncomputable def en (n:Nat):Entry:=yaI 173 ia io (fRun (X n) n T Tryz.f173 ia io)
end yeo
end Go.Proofs.YtcpkhpboemfglaaGreatDoor

namespace Go.Proofs.YtcpkhpboemfglaaGreatDoor
open Go Go.Va Go.Proofs
namespace ybt
abbrev ia:List Ai:=[.dat (.int .u64)]
abbrev io:List (Nat×Oi):=[(2,.dat .str)]
abbrev R:Type:=DOut ia io
noncomputable def X (n:Nat):Ctx:=⟨⟨tab,[ydv.en n],0,[]⟩,6,bnOf 0 ia⟩
noncomputable def T:CT := .o
noncomputable def f (n:Nat)(n_:Int):Option R:=fRun (X n) n T Tryz.f88 ia io (n_,())
theorem e0 (n:Nat)(n_:Int):f n n_ =
  bnd (ydv.f n n_) λu1=>
  some ((ya4 u1.1),()):=(yaj _).trans (by kernel_rfl)
theorem phi (n:Nat):∀ e∈(X n).c.Φ,EntryOk Tryz.prog e:=yah (yab (ydv.ok n)) (yaz)
theorem ok (n:Nat):FnOk Tryz.prog 88 ia io (fRun (X n) n T Tryz.f88 ia io):=yaM mixed tabIs (phi n) Tryz.func88 (by kernel_rfl) rfl
noncomputable def en (n:Nat):Entry:=yaI 88 ia io (fRun (X n) n T Tryz.f88 ia io)
end ybt
end Go.Proofs.YtcpkhpboemfglaaGreatDoor

namespace Go.Proofs.YtcpkhpboemfglaaGreatDoor
open Go Go.Va Go.Proofs
namespace ybq
abbrev ia:List Ai:=[.dat (.slice (.int .u8)),.dat (.slice (.int .u8))]
abbrev io:List (Nat×Oi):=[(4,.dat .bool)]
abbrev R:Type:=DOut ia io
noncomputable def X (n:Nat):Ctx:=⟨⟨tab,[],0,[]⟩,10,bnOf 0 ia⟩
noncomputable def T:CT := .o
noncomputable def f (n:Nat)(a:List (Int))(b:List (Int)):Option R:=fRun (X n) n T Tryz.f69 ia io (a,b,())
theorem e0 (n:Nat)(a:List (Int))(b:List (Int)):f n a b =
  some ((hide (eqS (ya4 a) (ya4 b))),()):=(yaj _).trans (by kernel_rfl)
theorem phi (n:Nat):∀ e∈(X n).c.Φ,EntryOk Tryz.prog e:=yaz
theorem ok (n:Nat):FnOk Tryz.prog 69 ia io (fRun (X n) n T Tryz.f69 ia io):=yaM mixed tabIs (phi n) Tryz.func69 (by kernel_rfl) rfl
noncomputable def en (n:Nat):Entry:=yaI 69 ia io (fRun (X n) n T Tryz.f69 ia io)
end ybq
end Go.Proofs.YtcpkhpboemfglaaGreatDoor

namespace Go.Proofs.YtcpkhpboemfglaaGreatDoor
open Go Go.Va Go.Proofs
namespace ybs
abbrev ia:List Ai:=[.dat (.slice (.int .u8))]
abbrev io:List (Nat×Oi):=[(2,.dat (.int .u64)),(3,.dat (.int .i64)),(4,.dat (.int .i64))]
abbrev R:Type:=DOut ia io
noncomputable def X (n:Nat):Ctx:=⟨⟨tab,[ybq.en n,yc6.en n],0,[]⟩,44,bnOf 0 ia⟩
abbrev g1:List Si:=[.dat 0 (.slice (.int .u8)),.dat 2 (.int .u64),.dat 7 (.slice (.int .u8)),.dat 8 (.int .i64),.dat 9 (.int .i64)]
abbrev g2:List Si:=[.dat 0 (.slice (.int .u8)),.dat 2 (.int .u64),.dat 5 (.int .i64),.dat 6 (.int .u8),.dat 7 (.slice (.int .u8)),.dat 8 (.int .i64),.dat 9 (.int .i64),.dat 19 .bool]
abbrev g3:List Si:=[.dat 0 (.slice (.int .u8)),.dat 2 (.int .u64),.dat 5 (.int .i64),.dat 6 (.int .u8),.dat 7 (.slice (.int .u8)),.dat 8 (.int .i64),.dat 9 (.int .i64)]
abbrev g4:List Si:=[]
noncomputable def T:CT:=(.s .o (.s (.s .o (.b (.l g1 (.s .o (.s .o (.s (.b (.s .o (.s (.s .o (.r g2 .o)) (.r g3 .o)))) .o)))))) (.r g4 .o)))
noncomputable def J1 (n:Nat)(m:Nat):(List (Int))×Int×(List (Int))×Int×Int×Unit→Option R:=jL (X n) n T (yaX Tryz.f185) (endK ia io) g1 [1,0,1,0] [] m
noncomputable def J2 (n m1:Nat):(List (Int))×Int×Int×Int×(List (Int))×Int×Int×Bool×Unit→Option R:=jR (X n) n T (yaX Tryz.f185) (endK ia io) g2 [1,0,1,0,0,1,1,0,0,1,0,1] [m1]
noncomputable def J3 (n m1:Nat):(List (Int))×Int×Int×Int×(List (Int))×Int×Int×Unit→Option R:=jR (X n) n T (yaX Tryz.f185) (endK ia io) g3 [1,0,1,0,0,1,1,0,0,1,1] [m1]
noncomputable def J4 (n:Nat):Unit→Option R:=jR (X n) n T (yaX Tryz.f185) (endK ia io) g4 [1,1] []
noncomputable def f (n:Nat)(b:List (Int)):Option R:=fRun (X n) n T Tryz.f185 ia io (b,())
theorem e0 (n:Nat)(b:List (Int)):f n b =
  J1 n n (b,0,b,((b.length:Nat):Int),0,()):=(yaj _).trans (by kernel_rfl)
theorem e1 (n m:Nat) (b:List (Int)) (n_:Int) (t7:List (Int)) (t8:Int) (t9:Int):J1 n (m+1) (b,n_,t7,t8,t9,()) =
  bIf ((hide (decide (t9<t8)))) (
    gIf (0≤t9∧t9<((t7.length:Nat):Int)) (
      bIf ((hide (t9==(9:Int)))) (
        J2 n m (b,n_,t9,(List.getD t7 t9.toNat 0),t7,t8,t9,(hide (decide ((List.getD t7 t9.toNat 0)>(1:Int)))),())
        ) (
        J2 n m (b,n_,t9,(List.getD t7 t9.toNat 0),t7,t8,t9,false,())
        )
      )
    ) (
    J4 n (())
    ):=(yaj _).trans (by kernel_rfl)
theorem e2 (n m1:Nat)(b:List (Int))(n_:Int)(i:Int)(x_:Int)(t7:List (Int))(t8:Int)(t9:Int)(t19:Bool):J2 n m1 (b,n_,i,x_,t7,t8,t9,t19,()) =
  bIf (t19) (
    some (0,0,2,())
    ) (
    J3 n m1 (b,n_,i,x_,t7,t8,t9,())
    ):=(yaj _).trans (by kernel_rfl)
theorem e3 (n m1:Nat) (b:List (Int)) (n_:Int) (i:Int) (x_:Int) (t7:List (Int)) (t8:Int) (t9:Int):J3 n m1 (b,n_,i,x_,t7,t8,t9,()) =
  gNo ((IntKind.u64.wrap ((7:Int)*(IntKind.u64.wrap i)))<0) (
    gNo ((7 : Int)<0) (
      bIf ((hide ((shrI .u8 x_ 7) != (0:Int)))) (
        J1 n m1 (b,(bitI .or .u64 n_ (shlI .u64 (IntKind.u64.wrap (bitI .andNot .u8 x_ 128)) (IntKind.u64.wrap ((7:Int)*(IntKind.u64.wrap i))))),t7,t8,(IntKind.i64.wrap (t9+(1:Int))),())
        ) (
        bnd (yc6.f n (bitI .or .u64 n_ (shlI .u64 (IntKind.u64.wrap (bitI .andNot .u8 x_ 128)) (IntKind.u64.wrap ((7:Int)*(IntKind.u64.wrap i)))))) λu1=>
        gIf (0≤(IntKind.i64.wrap (i+(1:Int)))∧(IntKind.i64.wrap (i+(1:Int)))≤((b.length:Nat):Int)) (
          gIf (0≤(0:Int)∧(0:Int)≤(IntKind.i64.wrap (i+(1:Int)))) (
            bnd (ybq.f n u1.1 ((b.take ((IntKind.i64.wrap (i+(1:Int))).toNat)).drop 0)) λu2=>
            bIf ((!u2.1)) (
              some (0,0,2,())
              ) (
              some ((bitI .or .u64 n_ (shlI .u64 (IntKind.u64.wrap (bitI .andNot .u8 x_ 128)) (IntKind.u64.wrap ((7:Int)*(IntKind.u64.wrap i))))),(IntKind.i64.wrap (i+(1:Int))),0,())
              )
            )
          )
        )
      )
    ):=(yaj _).trans (by kernel_rfl)
theorem e4 (n:Nat):J4 n (()) =
  some (0,0,3,()):=(yaj _).trans (by kernel_rfl)
theorem phi (n:Nat):∀ e∈(X n).c.Φ,EntryOk Tryz.prog e:=yah (yab (ybq.ok n)) (yah (yab (yc6.ok n)) (yaz))
theorem ok (n:Nat):FnOk Tryz.prog 185 ia io (fRun (X n) n T Tryz.f185 ia io):=yaM mixed tabIs (phi n) Tryz.func185 (by kernel_rfl) rfl
noncomputable def en (n:Nat):Entry:=yaI 185 ia io (fRun (X n) n T Tryz.f185 ia io)
end ybs
end Go.Proofs.YtcpkhpboemfglaaGreatDoor

namespace Go.Proofs.YtcpkhpboemfglaaGreatDoor
open Go Go.Va Go.Proofs
namespace yeW
abbrev ia:List Ai:=[.dat (.int .u64)]
abbrev io:List (Nat×Oi):=[(2,.dat (.int .i64))]
abbrev R:Type:=DOut ia io
noncomputable def X (n:Nat):Ctx:=⟨⟨tab,[],0,[]⟩,11,bnOf 0 ia⟩
noncomputable def T:CT := .o
noncomputable def f (n:Nat)(u:Int):Option R:=fRun (X n) n T Tryz.f186 ia io (u,())
theorem e0 (n:Nat)(u:Int):f n u =
  gNo ((1:Int)<0) (
    some ((bitI .xor .i64 (IntKind.i64.wrap (shrI .u64 u 1)) (IntKind.i64.wrap (0-(IntKind.i64.wrap (bitI .and .u64 u 1))))),())
    ):=(yaj _).trans (by kernel_rfl)
theorem phi (n:Nat):∀ e∈(X n).c.Φ,EntryOk Tryz.prog e:=yaz
theorem ok (n:Nat):FnOk Tryz.prog 186 ia io (fRun (X n) n T Tryz.f186 ia io):=yaM mixed tabIs (phi n) Tryz.func186 (by kernel_rfl) rfl
noncomputable def en (n:Nat):Entry:=yaI 186 ia io (fRun (X n) n T Tryz.f186 ia io)
end yeW
end Go.Proofs.YtcpkhpboemfglaaGreatDoor

namespace Go.Proofs.YtcpkhpboemfglaaGreatDoor
open Go Go.Va Go.Proofs
namespace ybi
abbrev ia:List Ai:=[.ptr (.p (.r 0 (.int .u8)) (.d .unit)),.dat (.slice (.int .u8))]
abbrev io:List (Nat×Oi):=[(4,.arg 0 500000 (.d yby))]
abbrev R:Type:=DOut ia io
noncomputable def X (n:Nat):Ctx:=⟨⟨tab,[],0,[]⟩,17,bnOf 0 ia⟩
noncomputable def T:CT := .o
noncomputable def f (n:Nat)(w_:yaO)(b:List (Int)):Option R:=fRun (X n) n T Tryz.f102 ia io (w_,b,())
theorem e0 (n:Nat)(w_:yaO)(b:List (Int)):f n w_ b =
  bIf ((hide true)) (
    gIf ((w_.1.length+b.length)*1≤70368744177664) (
      some (((w_.1++b),w_.2),())
      )
    ) (
    some ((w_.1,w_.2),())
    ):=(yaj _).trans (by kernel_rfl)
theorem phi (n:Nat):∀ e∈(X n).c.Φ,EntryOk Tryz.prog e:=yaz
theorem ok (n:Nat):FnOk Tryz.prog 102 ia io (fRun (X n) n T Tryz.f102 ia io):=yaM mixed tabIs (phi n) Tryz.func102 (by kernel_rfl) rfl
noncomputable def en (n:Nat):Entry:=yaI 102 ia io (fRun (X n) n T Tryz.f102 ia io)
end ybi
end Go.Proofs.YtcpkhpboemfglaaGreatDoor

namespace Go.Proofs.YtcpkhpboemfglaaGreatDoor
open Go Go.Va Go.Proofs
namespace yau
abbrev ia:List Ai:=[.ptr (.p (.r 0 (.int .u8)) (.d .unit)),.dat (.int .u64)]
abbrev io:List (Nat×Oi):=[(4,.arg 0 500000 (.d yby))]
abbrev R:Type:=DOut ia io
noncomputable def X (n:Nat):Ctx:=⟨⟨tab,[ybi.en n,yc6.en n],0,[]⟩,9,bnOf 0 ia⟩
noncomputable def T:CT := .o
noncomputable def f (n:Nat)(w_:yaO)(n_:Int):Option R:=fRun (X n) n T Tryz.f37 ia io (w_,n_,())
theorem e0 (n:Nat)(w_:yaO)(n_:Int):f n w_ n_ =
  bnd (yc6.f n n_) λu1=>
  bnd (ybi.f n (w_.1,w_.2) u1.1) λu2=>
  some ((u2.1.1,u2.1.2),()):=(yaj _).trans (by kernel_rfl)
theorem phi (n:Nat):∀ e∈(X n).c.Φ,EntryOk Tryz.prog e:=yah (yab (ybi.ok n)) (yah (yab (yc6.ok n)) (yaz))
theorem ok (n:Nat):FnOk Tryz.prog 37 ia io (fRun (X n) n T Tryz.f37 ia io):=yaM mixed tabIs (phi n) Tryz.func37 (by kernel_rfl) rfl
noncomputable def en (n:Nat):Entry:=yaI 37 ia io (fRun (X n) n T Tryz.f37 ia io)
end yau
end Go.Proofs.YtcpkhpboemfglaaGreatDoor

namespace Go.Proofs.YtcpkhpboemfglaaGreatDoor
open Go Go.Va Go.Proofs
namespace ycp
abbrev ia:List Ai:=[.fn (.str 1) [(.p (.r 0 (.int .u8)) (.d .unit))],.dat yaC]
abbrev io:List (Nat×Oi):=[]
abbrev R:Type:=DOut ia io
noncomputable def X (n:Nat):Ctx:=⟨⟨tab,[yau.en n],0,[]⟩,14,bnOf 0 ia⟩
noncomputable def T:CT := .o
noncomputable def f (n:Nat)(wc0:yaO)(d:yad):Option R:=fRun (X n) n T Tryz.f105 ia io (wc0,d,())
theorem e0 (n:Nat)(wc0:yaO)(d:yad):f n wc0 d =
  bnd (yau.f n (wc0.1,wc0.2) (IntKind.u64.wrap d.1)) λu1=>
  bnd (yau.f n (u1.1.1,u1.1.2) (IntKind.u64.wrap d.2.1)) λu2=>
  some ((u2.1.1,u2.1.2),()):=(yaj _).trans (by kernel_rfl)
theorem phi (n:Nat):∀ e∈(X n).c.Φ,EntryOk Tryz.prog e:=yah (yab (yau.ok n)) (yaz)
theorem ok (n:Nat):FnOk Tryz.prog 105 ia io (fRun (X n) n T Tryz.f105 ia io):=yaM mixed tabIs (phi n) Tryz.func105 (by kernel_rfl) rfl
noncomputable def en (n:Nat):Entry:=yaI 105 ia io (fRun (X n) n T Tryz.f105 ia io)
end ycp
end Go.Proofs.YtcpkhpboemfglaaGreatDoor

namespace Go.Proofs.YtcpkhpboemfglaaGreatDoor
open Go Go.Va Go.Proofs
namespace yaW
abbrev ia:List Ai:=[.ptr (.p (.r 0 (.int .u8)) (.d .unit)),.dat .bool]
abbrev io:List (Nat×Oi):=[(4,.arg 0 500000 (.d yby))]
abbrev R:Type:=DOut ia io
noncomputable def X (n:Nat):Ctx:=⟨⟨tab,[ybi.en n],0,[]⟩,12,bnOf 0 ia⟩
noncomputable def T:CT := .o
noncomputable def f (n:Nat)(w_:yaO)(b:Bool):Option R:=fRun (X n) n T Tryz.f84 ia io (w_,b,())
theorem e0 (n:Nat)(w_:yaO)(b:Bool):f n w_ b =
  bIf (b) (
    bnd (ybi.f n (w_.1,w_.2) ([1]:List (Int))) λu1=>
    some ((u1.1.1,u1.1.2),())
    ) (
    bnd (ybi.f n (w_.1,w_.2) ([0]:List (Int))) λu2=>
    some ((u2.1.1,u2.1.2),())
    ):=(yaj _).trans (by kernel_rfl)
theorem phi (n:Nat):∀ e∈(X n).c.Φ,EntryOk Tryz.prog e:=yah (yab (ybi.ok n)) (yaz)
theorem ok (n:Nat):FnOk Tryz.prog 84 ia io (fRun (X n) n T Tryz.f84 ia io):=yaM mixed tabIs (phi n) Tryz.func84 (by kernel_rfl) rfl
noncomputable def en (n:Nat):Entry:=yaI 84 ia io (fRun (X n) n T Tryz.f84 ia io)
end yaW
end Go.Proofs.YtcpkhpboemfglaaGreatDoor

namespace Go.Proofs.YtcpkhpboemfglaaGreatDoor
open Go Go.Va Go.Proofs
namespace yay
abbrev ia:List Ai:=[.ptr (.p (.r 0 (.int .u8)) (.d .unit)),.dat .str]
abbrev io:List (Nat×Oi):=[(4,.arg 0 500000 (.d yby))]
abbrev R:Type:=DOut ia io
noncomputable def X (n:Nat):Ctx:=⟨⟨tab,[yau.en n,ybi.en n],0,[]⟩,13,bnOf 0 ia⟩
noncomputable def T:CT := .o
noncomputable def f (n:Nat)(w_:yaO)(s_:ByteArray):Option R:=fRun (X n) n T Tryz.f83 ia io (w_,s_,())
theorem e0 (n:Nat)(w_:yaO)(s_:ByteArray):f n w_ s_ =
  bnd (yau.f n (w_.1,w_.2) (IntKind.u64.wrap (s_.size:Int))) λu1=>
  bnd (ybi.f n (u1.1.1,u1.1.2) (ycN s_)) λu2=>
  some ((u2.1.1,u2.1.2),()):=(yaj _).trans (by kernel_rfl)
theorem phi (n:Nat):∀ e∈(X n).c.Φ,EntryOk Tryz.prog e:=yah (yab (yau.ok n)) (yah (yab (ybi.ok n)) (yaz))
theorem ok (n:Nat):FnOk Tryz.prog 83 ia io (fRun (X n) n T Tryz.f83 ia io):=yaM mixed tabIs (phi n) Tryz.func83 (by kernel_rfl) rfl
noncomputable def en (n:Nat):Entry:=yaI 83 ia io (fRun (X n) n T Tryz.f83 ia io)
end yay
end Go.Proofs.YtcpkhpboemfglaaGreatDoor

namespace Go.Proofs.YtcpkhpboemfglaaGreatDoor
open Go Go.Va Go.Proofs
namespace ybO
abbrev ia:List Ai:=[.fn (.str 1) [(.p (.r 0 (.int .u8)) (.d .unit))],.dat (.slice yaJ)]
abbrev io:List (Nat×Oi):=[]
abbrev R:Type:=DOut ia io
noncomputable def X (n:Nat):Ctx:=⟨⟨tab,[yau.en n,yay.en n,yaW.en n],0,[]⟩,33,bnOf 0 ia⟩
abbrev g1:List Si:=[.ref 2 2 ycX,.dat 12 (.slice yaJ),.dat 13 (.int .i64),.dat 14 (.int .i64),.box 2 (.p (.al 500000 yby) (.d .unit)),.box 500000 (.p (.r 100000500000000 (.int .u8)) (.d .unit))]
noncomputable def T:CT:=(.s .o (.s .o (.s .o (.b (.l g1 .o)))))
noncomputable def J1 (n:Nat)(m:Nat):(List (yac))×Int×Int×ycC×yaO×Unit→Option R:=jL (X n) n T (yaX Tryz.f107) (endK ia io) g1 [1,1,1,0] [] m
noncomputable def f (n:Nat)(wc0:yaO)(list:List (yac)):Option R:=fRun (X n) n T Tryz.f107 ia io (wc0,list,())
theorem e0 (n:Nat)(wc0:yaO)(list:List (yac)):f n wc0 list =
  bnd (yau.f n (wc0.1,wc0.2) (IntKind.u64.wrap ((list.length:Nat):Int))) λu1=>
  J1 n n (list,((list.length:Nat):Int),0,((),()),(u1.1.1,u1.1.2),()):=(yaj _).trans (by kernel_rfl)
theorem e1 (n m:Nat)(t12:List (yac))(t13:Int)(t14:Int)(w_:ycC)(b500000:yaO):J1 n (m+1) (t12,t13,t14,w_,b500000,()) =
  bIf ((hide (decide (t14<t13)))) (
    gIf (0≤t14∧t14<((t12.length:Nat):Int)) (
      bnd (yaW.f n (b500000.1,b500000.2) ((List.getD t12 t14.toNat (Va.dflt yaJ)).1)) λu1=>
      bnd (yay.f n (u1.1.1,u1.1.2) (((List.getD t12 t14.toNat (Va.dflt yaJ)).2).1)) λu2=>
      bnd (yay.f n (u2.1.1,u2.1.2) ((((List.getD t12 t14.toNat (Va.dflt yaJ)).2).2).1)) λu3=>
      bnd (yay.f n (u3.1.1,u3.1.2) (((((List.getD t12 t14.toNat (Va.dflt yaJ)).2).2).2).1)) λu4=>
      J1 n m (t12,t13,(IntKind.i64.wrap (t14+(1:Int))),((),w_.2),(u4.1.1,u4.1.2),())
      )
    ) (
    some ((b500000.1,b500000.2),())
    ):=(yaj _).trans (by kernel_rfl)
theorem phi (n:Nat):∀ e∈(X n).c.Φ,EntryOk Tryz.prog e:=yah (yab (yau.ok n)) (yah (yab (yay.ok n)) (yah (yab (yaW.ok n)) (yaz)))
theorem ok (n:Nat):FnOk Tryz.prog 107 ia io (fRun (X n) n T Tryz.f107 ia io):=yaM mixed tabIs (phi n) Tryz.func107 (by kernel_rfl) rfl
noncomputable def en (n:Nat):Entry:=yaI 107 ia io (fRun (X n) n T Tryz.f107 ia io)
end ybO
end Go.Proofs.YtcpkhpboemfglaaGreatDoor

namespace Go.Proofs.YtcpkhpboemfglaaGreatDoor
open Go Go.Va Go.Proofs
namespace ybC
abbrev ia:List Ai:=[.ptr (.p (.r 0 (.int .u8)) (.d .unit)),.dat (.int .i64)]
abbrev io:List (Nat×Oi):=[(4,.arg 0 500000 (.d yby))]
abbrev R:Type:=DOut ia io
noncomputable def X (n:Nat):Ctx:=⟨⟨tab,[yau.en n,yeZ.en n],0,[]⟩,9,bnOf 0 ia⟩
noncomputable def T:CT := .o
noncomputable def f (n:Nat)(w_:yaO)(n_:Int):Option R:=fRun (X n) n T Tryz.f104 ia io (w_,n_,())
theorem e0 (n:Nat)(w_:yaO)(n_:Int):f n w_ n_ =
  bnd (yeZ.f n n_) λu1=>
  bnd (yau.f n (w_.1,w_.2) u1.1) λu2=>
  some ((u2.1.1,u2.1.2),()):=(yaj _).trans (by kernel_rfl)
theorem phi (n:Nat):∀ e∈(X n).c.Φ,EntryOk Tryz.prog e:=yah (yab (yau.ok n)) (yah (yab (yeZ.ok n)) (yaz))
theorem ok (n:Nat):FnOk Tryz.prog 104 ia io (fRun (X n) n T Tryz.f104 ia io):=yaM mixed tabIs (phi n) Tryz.func104 (by kernel_rfl) rfl
noncomputable def en (n:Nat):Entry:=yaI 104 ia io (fRun (X n) n T Tryz.f104 ia io)
end ybC
end Go.Proofs.YtcpkhpboemfglaaGreatDoor

namespace Go.Proofs.YtcpkhpboemfglaaGreatDoor
open Go Go.Va Go.Proofs
namespace ybB
abbrev ia:List Ai:=[.fn (.str 1) [(.p (.r 0 (.int .u8)) (.d .unit))],.dat yaT]
abbrev io:List (Nat×Oi):=[]
abbrev R:Type:=DOut ia io
noncomputable def X (n:Nat):Ctx:=⟨⟨tab,[yau.en n,yaW.en n,ybC.en n],0,[]⟩,16,bnOf 0 ia⟩
noncomputable def T:CT := .o
noncomputable def f (n:Nat)(wc0:yaO)(l:yan):Option R:=fRun (X n) n T Tryz.f108 ia io (wc0,l,())
theorem e0 (n:Nat)(wc0:yaO)(l:yan):f n wc0 l =
  bnd (yau.f n (wc0.1,wc0.2) (IntKind.u64.wrap l.1)) λu1=>
  bnd (ybC.f n (u1.1.1,u1.1.2) l.2.1) λu2=>
  bnd (yaW.f n (u2.1.1,u2.1.2) l.2.2.1) λu3=>
  some ((u3.1.1,u3.1.2),()):=(yaj _).trans (by kernel_rfl)
theorem phi (n:Nat):∀ e∈(X n).c.Φ,EntryOk Tryz.prog e:=yah (yab (yau.ok n)) (yah (yab (yaW.ok n)) (yah (yab (ybC.ok n)) (yaz)))
theorem ok (n:Nat):FnOk Tryz.prog 108 ia io (fRun (X n) n T Tryz.f108 ia io):=yaM mixed tabIs (phi n) Tryz.func108 (by kernel_rfl) rfl
noncomputable def en (n:Nat):Entry:=yaI 108 ia io (fRun (X n) n T Tryz.f108 ia io)
end ybB
end Go.Proofs.YtcpkhpboemfglaaGreatDoor

namespace Go.Proofs.YtcpkhpboemfglaaGreatDoor
open Go Go.Va Go.Proofs
namespace ybc
abbrev ia:List Ai:=[.fn (.str 1) [(.p (.r 0 (.int .u8)) (.d .unit))],.dat (.slice yax)]
abbrev io:List (Nat×Oi):=[]
abbrev R:Type:=DOut ia io
noncomputable def X (n:Nat):Ctx:=⟨⟨tab,[yau.en n,yay.en n],0,[]⟩,27,bnOf 0 ia⟩
abbrev g1:List Si:=[.ref 2 2 ycX,.dat 12 (.slice yax),.dat 13 (.int .i64),.dat 14 (.int .i64),.box 2 (.p (.al 500000 yby) (.d .unit)),.box 500000 (.p (.r 100000500000000 (.int .u8)) (.d .unit))]
noncomputable def T:CT:=(.s .o (.s .o (.s .o (.b (.l g1 .o)))))
noncomputable def J1 (n:Nat)(m:Nat):(List (yak))×Int×Int×ycC×yaO×Unit→Option R:=jL (X n) n T (yaX Tryz.f109) (endK ia io) g1 [1,1,1,0] [] m
noncomputable def f (n:Nat)(wc0:yaO)(list:List (yak)):Option R:=fRun (X n) n T Tryz.f109 ia io (wc0,list,())
theorem e0 (n:Nat)(wc0:yaO)(list:List (yak)):f n wc0 list =
  bnd (yau.f n (wc0.1,wc0.2) (IntKind.u64.wrap ((list.length:Nat):Int))) λu1=>
  J1 n n (list,((list.length:Nat):Int),0,((),()),(u1.1.1,u1.1.2),()):=(yaj _).trans (by kernel_rfl)
theorem e1 (n m:Nat)(t12:List (yak))(t13:Int)(t14:Int)(w_:ycC)(b500000:yaO):J1 n (m+1) (t12,t13,t14,w_,b500000,()) =
  bIf ((hide (decide (t14<t13)))) (
    gIf (0≤t14∧t14<((t12.length:Nat):Int)) (
      bnd (yay.f n (b500000.1,b500000.2) ((List.getD t12 t14.toNat (Va.dflt yax)).1)) λu1=>
      bnd (yay.f n (u1.1.1,u1.1.2) (((List.getD t12 t14.toNat (Va.dflt yax)).2).1)) λu2=>
      J1 n m (t12,t13,(IntKind.i64.wrap (t14+(1:Int))),((),w_.2),(u2.1.1,u2.1.2),())
      )
    ) (
    some ((b500000.1,b500000.2),())
    ):=(yaj _).trans (by kernel_rfl)
theorem phi (n:Nat):∀ e∈(X n).c.Φ,EntryOk Tryz.prog e:=yah (yab (yau.ok n)) (yah (yab (yay.ok n)) (yaz))
theorem ok (n:Nat):FnOk Tryz.prog 109 ia io (fRun (X n) n T Tryz.f109 ia io):=yaM mixed tabIs (phi n) Tryz.func109 (by kernel_rfl) rfl
noncomputable def en (n:Nat):Entry:=yaI 109 ia io (fRun (X n) n T Tryz.f109 ia io)
end ybc
end Go.Proofs.YtcpkhpboemfglaaGreatDoor

namespace Go.Proofs.YtcpkhpboemfglaaGreatDoor
open Go Go.Va Go.Proofs
namespace ybT
abbrev ia:List Ai:=[.fn (.str 1) [(.p (.r 0 (.int .u8)) (.d .unit))],.dat (.slice yaF)]
abbrev io:List (Nat×Oi):=[]
abbrev R:Type:=DOut ia io
noncomputable def X (n:Nat):Ctx:=⟨⟨tab,[yau.en n,yay.en n,yaW.en n,ybc.en n],0,[]⟩,41,bnOf 0 ia⟩
abbrev g1:List Si:=[.ref 2 2 ycX,.dat 12 (.slice yaF),.dat 13 (.int .i64),.dat 14 (.int .i64),.box 2 (.p (.al 500000 yby) (.d .unit)),.box 500000 (.p (.r 100000500000000 (.int .u8)) (.d .unit))]
noncomputable def T:CT:=(.s .o (.s .o (.s .o (.b (.l g1 .o)))))
noncomputable def J1 (n:Nat)(m:Nat):(List (yag))×Int×Int×ycC×yaO×Unit→Option R:=jL (X n) n T (yaX Tryz.f106) (endK ia io) g1 [1,1,1,0] [] m
noncomputable def f (n:Nat)(wc0:yaO)(list:List (yag)):Option R:=fRun (X n) n T Tryz.f106 ia io (wc0,list,())
theorem e0 (n:Nat)(wc0:yaO)(list:List (yag)):f n wc0 list =
  bnd (yau.f n (wc0.1,wc0.2) (IntKind.u64.wrap ((list.length:Nat):Int))) λu1=>
  J1 n n (list,((list.length:Nat):Int),0,((),()),(u1.1.1,u1.1.2),()):=(yaj _).trans (by kernel_rfl)
theorem e1 (n m:Nat)(t12:List (yag))(t13:Int)(t14:Int)(w_:ycC)(b500000:yaO):J1 n (m+1) (t12,t13,t14,w_,b500000,()) =
  bIf ((hide (decide (t14<t13)))) (
    gIf (0≤t14∧t14<((t12.length:Nat):Int)) (
      bnd (yay.f n (b500000.1,b500000.2) ((List.getD t12 t14.toNat (Va.dflt yaF)).1)) λu1=>
      bnd (ybc.f n (u1.1.1,u1.1.2) (((List.getD t12 t14.toNat (Va.dflt yaF)).2).1)) λu2=>
      bnd (yau.f n (u2.1.1,u2.1.2) (IntKind.u64.wrap ((((List.getD t12 t14.toNat (Va.dflt yaF)).2).2).1))) λu3=>
      bnd (yau.f n (u3.1.1,u3.1.2) (IntKind.u64.wrap (((((List.getD t12 t14.toNat (Va.dflt yaF)).2).2).2).1))) λu4=>
      bnd (yaW.f n (u4.1.1,u4.1.2) ((((((List.getD t12 t14.toNat (Va.dflt yaF)).2).2).2).2).1)) λu5=>
      J1 n m (t12,t13,(IntKind.i64.wrap (t14+(1:Int))),((),w_.2),(u5.1.1,u5.1.2),())
      )
    ) (
    some ((b500000.1,b500000.2),())
    ):=(yaj _).trans (by kernel_rfl)
theorem phi (n:Nat):∀ e∈(X n).c.Φ,EntryOk Tryz.prog e:=yah (yab (yau.ok n)) (yah (yab (yay.ok n)) (yah (yab (yaW.ok n)) (yah (yab (ybc.ok n)) (yaz))))
theorem ok (n:Nat):FnOk Tryz.prog 106 ia io (fRun (X n) n T Tryz.f106 ia io):=yaM mixed tabIs (phi n) Tryz.func106 (by kernel_rfl) rfl
noncomputable def en (n:Nat):Entry:=yaI 106 ia io (fRun (X n) n T Tryz.f106 ia io)
end ybT
end Go.Proofs.YtcpkhpboemfglaaGreatDoor

namespace Go.Proofs.YtcpkhpboemfglaaGreatDoor
open Go Go.Va Go.Proofs
namespace ybW
abbrev ia:List Ai:=[.dat .bool]
abbrev io:List (Nat×Oi):=[(2,.dat .str)]
abbrev R:Type:=DOut ia io
noncomputable def X (n:Nat):Ctx:=⟨⟨tab,[],0,[]⟩,4,bnOf 0 ia⟩
noncomputable def T:CT := .o
noncomputable def f (n:Nat)(b:Bool):Option R:=fRun (X n) n T Tryz.f89 ia io (b,())
theorem e0 (n:Nat)(b:Bool):f n b =
  bIf (b) (
    some ((⟨#[1]⟩:ByteArray),())
    ) (
    some ((⟨#[0]⟩:ByteArray),())
    ):=(yaj _).trans (by kernel_rfl)
theorem phi (n:Nat):∀ e∈(X n).c.Φ,EntryOk Tryz.prog e:=yaz
theorem ok (n:Nat):FnOk Tryz.prog 89 ia io (fRun (X n) n T Tryz.f89 ia io):=yaM mixed tabIs (phi n) Tryz.func89 (by kernel_rfl) rfl
noncomputable def en (n:Nat):Entry:=yaI 89 ia io (fRun (X n) n T Tryz.f89 ia io)
end ybW
end Go.Proofs.YtcpkhpboemfglaaGreatDoor

namespace Go.Proofs.YtcpkhpboemfglaaGreatDoor
open Go Go.Va Go.Proofs
namespace ydC
abbrev ia:List Ai:=[.dat (.int .i64)]
abbrev io:List (Nat×Oi):=[(2,.dat .str)]
abbrev R:Type:=DOut ia io
noncomputable def X (n:Nat):Ctx:=⟨⟨tab,[ybt.en n,yeo.en n],0,[]⟩,6,bnOf 0 ia⟩
noncomputable def T:CT := .o
noncomputable def f (n:Nat)(n_:Int):Option R:=fRun (X n) n T Tryz.f113 ia io (n_,())
theorem e0 (n:Nat)(n_:Int):f n n_ =
  bnd (yeo.f n n_) λu1=>
  bnd (ybt.f n u1.1) λu2=>
  some (u2.1,()):=(yaj _).trans (by kernel_rfl)
theorem phi (n:Nat):∀ e∈(X n).c.Φ,EntryOk Tryz.prog e:=yah (yab (ybt.ok n)) (yah (yab (yeo.ok n)) (yaz))
theorem ok (n:Nat):FnOk Tryz.prog 113 ia io (fRun (X n) n T Tryz.f113 ia io):=yaM mixed tabIs (phi n) Tryz.func113 (by kernel_rfl) rfl
noncomputable def en (n:Nat):Entry:=yaI 113 ia io (fRun (X n) n T Tryz.f113 ia io)
end ydC
end Go.Proofs.YtcpkhpboemfglaaGreatDoor

namespace Go.Proofs.YtcpkhpboemfglaaGreatDoor
open Go Go.Va Go.Proofs
namespace ybd
abbrev ia:List Ai:=[.dat .str]
abbrev io:List (Nat×Oi):=[(2,.dat .str)]
abbrev R:Type:=DOut ia io
noncomputable def X (n:Nat):Ctx:=⟨⟨tab,[ybt.en n],0,[]⟩,9,bnOf 0 ia⟩
noncomputable def T:CT := .o
noncomputable def f (n:Nat)(s_:ByteArray):Option R:=fRun (X n) n T Tryz.f72 ia io (s_,())
theorem e0 (n:Nat)(s_:ByteArray):f n s_ =
  bnd (ybt.f n (IntKind.u64.wrap (s_.size:Int))) λu1=>
  gIf (u1.1.size+s_.size≤4611686018427387904) (
    some ((u1.1++s_),())
    ):=(yaj _).trans (by kernel_rfl)
theorem phi (n:Nat):∀ e∈(X n).c.Φ,EntryOk Tryz.prog e:=yah (yab (ybt.ok n)) (yaz)
theorem ok (n:Nat):FnOk Tryz.prog 72 ia io (fRun (X n) n T Tryz.f72 ia io):=yaM mixed tabIs (phi n) Tryz.func72 (by kernel_rfl) rfl
noncomputable def en (n:Nat):Entry:=yaI 72 ia io (fRun (X n) n T Tryz.f72 ia io)
end ybd
end Go.Proofs.YtcpkhpboemfglaaGreatDoor

namespace Go.Proofs.YtcpkhpboemfglaaGreatDoor
open Go Go.Va Go.Proofs
namespace ybJ
abbrev ia:List Ai:=[.dat (.int .i64)]
abbrev io:List (Nat×Oi):=[(2,.dat .str)]
abbrev R:Type:=DOut ia io
noncomputable def X (n:Nat):Ctx:=⟨⟨tab,[ybt.en n],0,[]⟩,6,bnOf 0 ia⟩
noncomputable def T:CT := .o
noncomputable def f (n:Nat)(n_:Int):Option R:=fRun (X n) n T Tryz.f40 ia io (n_,())
theorem e0 (n:Nat)(n_:Int):f n n_ =
  bnd (ybt.f n (IntKind.u64.wrap n_)) λu1=>
  some (u1.1,()):=(yaj _).trans (by kernel_rfl)
theorem phi (n:Nat):∀ e∈(X n).c.Φ,EntryOk Tryz.prog e:=yah (yab (ybt.ok n)) (yaz)
theorem ok (n:Nat):FnOk Tryz.prog 40 ia io (fRun (X n) n T Tryz.f40 ia io):=yaM mixed tabIs (phi n) Tryz.func40 (by kernel_rfl) rfl
noncomputable def en (n:Nat):Entry:=yaI 40 ia io (fRun (X n) n T Tryz.f40 ia io)
end ybJ
end Go.Proofs.YtcpkhpboemfglaaGreatDoor

namespace Go.Proofs.YtcpkhpboemfglaaGreatDoor
open Go Go.Va Go.Proofs
namespace ycU
abbrev ia:List Ai:=[.dat yaC]
abbrev io:List (Nat×Oi):=[(2,.dat .str)]
abbrev R:Type:=DOut ia io
noncomputable def X (n:Nat):Ctx:=⟨⟨tab,[ybJ.en n],0,[]⟩,10,bnOf 0 ia⟩
noncomputable def T:CT := .o
noncomputable def f (n:Nat)(d:yad):Option R:=fRun (X n) n T Tryz.f116 ia io (d,())
theorem e0 (n:Nat)(d:yad):f n d =
  bnd (ybJ.f n d.1) λu1=>
  bnd (ybJ.f n d.2.1) λu2=>
  gIf (u1.1.size+u2.1.size≤4611686018427387904) (
    some ((u1.1++u2.1),())
    ):=(yaj _).trans (by kernel_rfl)
theorem phi (n:Nat):∀ e∈(X n).c.Φ,EntryOk Tryz.prog e:=yah (yab (ybJ.ok n)) (yaz)
theorem ok (n:Nat):FnOk Tryz.prog 116 ia io (fRun (X n) n T Tryz.f116 ia io):=yaM mixed tabIs (phi n) Tryz.func116 (by kernel_rfl) rfl
noncomputable def en (n:Nat):Entry:=yaI 116 ia io (fRun (X n) n T Tryz.f116 ia io)
end ycU
end Go.Proofs.YtcpkhpboemfglaaGreatDoor

namespace Go.Proofs.YtcpkhpboemfglaaGreatDoor
open Go Go.Va Go.Proofs
namespace ycg
abbrev ia:List Ai:=[.dat (.slice yaJ)]
abbrev io:List (Nat×Oi):=[(2,.dat .str)]
abbrev R:Type:=DOut ia io
noncomputable def X (n:Nat):Ctx:=⟨⟨tab,[ybJ.en n,ybd.en n,ybW.en n],0,[]⟩,44,bnOf 0 ia⟩
abbrev g1:List Si:=[.dat 0 (.slice yaJ),.dat 3 .str,.dat 4 (.int .i64)]
abbrev g2:List Si:=[.dat 3 .str]
noncomputable def T:CT:=(.s .o (.s .o (.s (.s .o (.b (.l g1 .o))) (.r g2 .o))))
noncomputable def J1 (n:Nat)(m:Nat):(List (yac))×ByteArray×Int×Unit→Option R:=jL (X n) n T (yaX Tryz.f118) (endK ia io) g1 [1,1,0,1,0] [] m
noncomputable def J2 (n:Nat):ByteArray×Unit→Option R:=jR (X n) n T (yaX Tryz.f118) (endK ia io) g2 [1,1,1] []
noncomputable def f (n:Nat)(l:List (yac)):Option R:=fRun (X n) n T Tryz.f118 ia io (l,())
theorem e0 (n:Nat)(l:List (yac)):f n l =
  bnd (ybJ.f n ((l.length:Nat):Int)) λu1=>
  J1 n n (l,u1.1,0,()):=(yaj _).trans (by kernel_rfl)
theorem e1 (n m : Nat) (l:List (yac)) (s_:ByteArray) (i:Int):J1 n (m+1) (l,s_,i,()) =
  bIf ((hide (decide (i<((l.length:Nat):Int))))) (
    gIf (0≤i∧i<((l.length:Nat):Int)) (
      bnd (ybW.f n ((List.getD l i.toNat (Va.dflt yaJ)).1)) λu1=>
      gIf (0≤i∧i<((l.length:Nat):Int)) (
        bnd (ybd.f n (((List.getD l i.toNat (Va.dflt yaJ)).2).1)) λu2=>
        gIf (u1.1.size+u2.1.size≤4611686018427387904) (
          gIf (0≤i∧i<((l.length:Nat):Int)) (
            bnd (ybd.f n ((((List.getD l i.toNat (Va.dflt yaJ)).2).2).1)) λu3=>
            gIf ((u1.1++u2.1).size+u3.1.size≤4611686018427387904) (
              gIf (0≤i∧i<((l.length:Nat):Int)) (
                bnd (ybd.f n (((((List.getD l i.toNat (Va.dflt yaJ)).2).2).2).1)) λu4=>
                gIf (((u1.1++u2.1)++u3.1).size+u4.1.size≤4611686018427387904) (
                  gIf (s_.size+(((u1.1++u2.1)++u3.1)++u4.1).size≤4611686018427387904) (
                    J1 n m (l,(s_++(((u1.1++u2.1)++u3.1)++u4.1)),(IntKind.i64.wrap (i+(1:Int))),())
                    )
                  )
                )
              )
            )
          )
        )
      )
    ) (
    J2 n (s_,())
    ):=(yaj _).trans (by kernel_rfl)
theorem e2 (n:Nat)(s_:ByteArray):J2 n (s_,()) =
  some (s_,()):=(yaj _).trans (by kernel_rfl)
theorem phi (n:Nat):∀ e∈(X n).c.Φ,EntryOk Tryz.prog e:=yah (yab (ybJ.ok n)) (yah (yab (ybd.ok n)) (yah (yab (ybW.ok n)) (yaz)))
theorem ok (n:Nat):FnOk Tryz.prog 118 ia io (fRun (X n) n T Tryz.f118 ia io):=yaM mixed tabIs (phi n) Tryz.func118 (by kernel_rfl) rfl
noncomputable def en (n:Nat):Entry:=yaI 118 ia io (fRun (X n) n T Tryz.f118 ia io)
end ycg
end Go.Proofs.YtcpkhpboemfglaaGreatDoor

namespace Go.Proofs.YtcpkhpboemfglaaGreatDoor
open Go Go.Va Go.Proofs
namespace yc2
abbrev ia:List Ai:=[.dat yaT]
abbrev io:List (Nat×Oi):=[(2,.dat .str)]
abbrev R:Type:=DOut ia io
noncomputable def X (n:Nat):Ctx:=⟨⟨tab,[ybJ.en n,ybW.en n,ydC.en n],0,[]⟩,14,bnOf 0 ia⟩
noncomputable def T:CT := .o
noncomputable def f (n:Nat)(l:yan):Option R:=fRun (X n) n T Tryz.f114 ia io (l,())
theorem e0 (n:Nat)(l:yan):f n l =
  bnd (ybJ.f n l.1) λu1=>
  bnd (ydC.f n l.2.1) λu2=>
  gIf (u1.1.size+u2.1.size≤4611686018427387904) (
    bnd (ybW.f n l.2.2.1) λu3=>
    gIf ((u1.1++u2.1).size+u3.1.size≤4611686018427387904) (
      some (((u1.1++u2.1)++u3.1),())
      )
    ):=(yaj _).trans (by kernel_rfl)
theorem phi (n:Nat):∀ e∈(X n).c.Φ,EntryOk Tryz.prog e:=yah (yab (ybJ.ok n)) (yah (yab (ybW.ok n)) (yah (yab (ydC.ok n)) (yaz)))
theorem ok (n:Nat):FnOk Tryz.prog 114 ia io (fRun (X n) n T Tryz.f114 ia io):=yaM mixed tabIs (phi n) Tryz.func114 (by kernel_rfl) rfl
noncomputable def en (n:Nat):Entry:=yaI 114 ia io (fRun (X n) n T Tryz.f114 ia io)
end yc2
end Go.Proofs.YtcpkhpboemfglaaGreatDoor

namespace Go.Proofs.YtcpkhpboemfglaaGreatDoor
open Go Go.Va Go.Proofs
namespace ybG
abbrev ia:List Ai:=[.dat (.slice yax)]
abbrev io:List (Nat×Oi):=[(2,.dat .str)]
abbrev R:Type:=DOut ia io
noncomputable def X (n:Nat):Ctx:=⟨⟨tab,[ybJ.en n,ybd.en n],0,[]⟩,30,bnOf 0 ia⟩
abbrev g1:List Si:=[.dat 0 (.slice yax),.dat 3 .str,.dat 4 (.int .i64)]
abbrev g2:List Si:=[.dat 3 .str]
noncomputable def T:CT:=(.s .o (.s .o (.s (.s .o (.b (.l g1 .o))) (.r g2 .o))))
noncomputable def J1 (n:Nat)(m:Nat):(List (yak))×ByteArray×Int×Unit→Option R:=jL (X n) n T (yaX Tryz.f115) (endK ia io) g1 [1,1,0,1,0] [] m
noncomputable def J2 (n:Nat):ByteArray×Unit→Option R:=jR (X n) n T (yaX Tryz.f115) (endK ia io) g2 [1,1,1] []
noncomputable def f (n:Nat)(l:List (yak)):Option R:=fRun (X n) n T Tryz.f115 ia io (l,())
theorem e0 (n:Nat)(l:List (yak)):f n l =
  bnd (ybJ.f n ((l.length:Nat):Int)) λu1=>
  J1 n n (l,u1.1,0,()):=(yaj _).trans (by kernel_rfl)
theorem e1 (n m:Nat) (l:List (yak)) (s_:ByteArray) (i:Int):J1 n (m+1) (l,s_,i,()) =
  bIf ((hide (decide (i<((l.length:Nat):Int))))) (
    gIf (0≤i∧i<((l.length:Nat):Int)) (
      bnd (ybd.f n ((List.getD l i.toNat (Va.dflt yax)).1)) λu1=>
      gIf (0≤i∧i<((l.length:Nat):Int)) (
        bnd (ybd.f n (((List.getD l i.toNat (Va.dflt yax)).2).1)) λu2=>
        gIf (u1.1.size+u2.1.size≤4611686018427387904) (
          gIf (s_.size+(u1.1++u2.1).size≤4611686018427387904) (
            J1 n m (l,(s_++(u1.1++u2.1)),(IntKind.i64.wrap (i+(1:Int))),())
            )
          )
        )
      )
    ) (
    J2 n (s_,())
    ):=(yaj _).trans (by kernel_rfl)
theorem e2 (n:Nat)(s_:ByteArray):J2 n (s_,()) =
  some (s_,()):=(yaj _).trans (by kernel_rfl)
theorem phi (n:Nat):∀ e∈(X n).c.Φ,EntryOk Tryz.prog e:=yah (yab (ybJ.ok n)) (yah (yab (ybd.ok n)) (yaz))
theorem ok (n:Nat):FnOk Tryz.prog 115 ia io (fRun (X n) n T Tryz.f115 ia io):=yaM mixed tabIs (phi n) Tryz.func115 (by kernel_rfl) rfl
noncomputable def en (n:Nat):Entry:=yaI 115 ia io (fRun (X n) n T Tryz.f115 ia io)
end ybG
end Go.Proofs.YtcpkhpboemfglaaGreatDoor

namespace Go.Proofs.YtcpkhpboemfglaaGreatDoor
open Go Go.Va Go.Proofs
namespace ycr
abbrev ia:List Ai:=[.dat (.slice yaF)]
abbrev io:List (Nat×Oi):=[(2,.dat .str)]
abbrev R:Type:=DOut ia io
noncomputable def X (n:Nat):Ctx:=⟨⟨tab,[ybJ.en n,ybd.en n,ybW.en n,ybG.en n],0,[]⟩,51,bnOf 0 ia⟩
abbrev g1:List Si:=[.dat 0 (.slice yaF),.dat 3 .str,.dat 4 (.int .i64)]
abbrev g2:List Si:=[.dat 3 .str]
noncomputable def T:CT:=(.s .o (.s .o (.s (.s .o (.b (.l g1 .o))) (.r g2 .o))))
noncomputable def J1 (n:Nat)(m:Nat):(List (yag))×ByteArray×Int×Unit→Option R:=jL (X n) n T (yaX Tryz.f117) (endK ia io) g1 [1,1,0,1,0] [] m
noncomputable def J2 (n:Nat):ByteArray×Unit→Option R:=jR (X n) n T (yaX Tryz.f117) (endK ia io) g2 [1,1,1] []
noncomputable def f (n:Nat)(l:List (yag)):Option R:=fRun (X n) n T Tryz.f117 ia io (l,())
theorem e0 (n:Nat)(l:List (yag)):f n l =
  bnd (ybJ.f n ((l.length:Nat):Int)) λu1=>
  J1 n n (l,u1.1,0,()):=(yaj _).trans (by kernel_rfl)
theorem e1 (n m : Nat) (l:List (yag)) (s_:ByteArray) (i:Int):J1 n (m+1) (l,s_,i,()) =
  bIf ((hide (decide (i < ((l.length:Nat):Int))))) (
    gIf (0≤i∧i<((l.length:Nat):Int)) (
      bnd (ybd.f n ((List.getD l i.toNat (Va.dflt yaF)).1)) λu1=>
      gIf (0≤i∧i<((l.length:Nat):Int)) (
        bnd (ybG.f n (((List.getD l i.toNat (Va.dflt yaF)).2).1)) λu2=>
        gIf (u1.1.size+u2.1.size≤4611686018427387904) (
          gIf (0≤i∧i<((l.length:Nat):Int)) (
            bnd (ybJ.f n ((((List.getD l i.toNat (Va.dflt yaF)).2).2).1)) λu3=>
            gIf ((u1.1++u2.1).size+u3.1.size≤4611686018427387904) (
              gIf (0≤i∧i<((l.length:Nat):Int)) (
                bnd (ybJ.f n (((((List.getD l i.toNat (Va.dflt yaF)).2).2).2).1)) λu4=>
                gIf (((u1.1++u2.1)++u3.1).size+u4.1.size≤4611686018427387904) (
                  gIf (0≤i∧i<((l.length:Nat):Int)) (
                    bnd (ybW.f n ((((((List.getD l i.toNat (Va.dflt yaF)).2).2).2).2).1)) λu5=>
                    gIf ((((u1.1++u2.1)++u3.1)++u4.1).size+u5.1.size≤4611686018427387904) (
                      gIf (s_.size+((((u1.1++u2.1)++u3.1)++u4.1)++u5.1).size≤4611686018427387904) (
                        J1 n m (l,(s_++((((u1.1++u2.1)++u3.1)++u4.1)++u5.1)),(IntKind.i64.wrap (i+(1:Int))),())
                        )
                      )
                    )
                  )
                )
              )
            )
          )
        )
      )
    ) (
    J2 n (s_,())
    ):=(yaj _).trans (by kernel_rfl)
theorem e2 (n:Nat)(s_:ByteArray):J2 n (s_,()) =
  some (s_,()):=(yaj _).trans (by kernel_rfl)
theorem phi (n:Nat):∀ e∈(X n).c.Φ,EntryOk Tryz.prog e:=yah (yab (ybJ.ok n)) (yah (yab (ybd.ok n)) (yah (yab (ybW.ok n)) (yah (yab (ybG.ok n)) (yaz))))
theorem ok (n:Nat):FnOk Tryz.prog 117 ia io (fRun (X n) n T Tryz.f117 ia io):=yaM mixed tabIs (phi n) Tryz.func117 (by kernel_rfl) rfl
noncomputable def en (n:Nat):Entry:=yaI 117 ia io (fRun (X n) n T Tryz.f117 ia io)
end ycr
end Go.Proofs.YtcpkhpboemfglaaGreatDoor

namespace Go.Proofs.YtcpkhpboemfglaaGreatDoor
open Go Go.Va Go.Proofs
namespace ycV
abbrev ia:List Ai:=[.dat (.slice (.int .u8))]
abbrev io:List (Nat×Oi):=[(2,.dat (.slice (.int .u8)))]
abbrev R:Type:=DOut ia io
noncomputable def X (n:Nat):Ctx:=⟨⟨tab,[],0,[]⟩,9,bnOf 0 ia⟩
noncomputable def T:CT := .o
noncomputable def f (n:Nat)(s_:List (Int)):Option R:=fRun (X n) n T Tryz.f111 ia io (s_,())
theorem e0 (n:Nat) (s_:List (Int)):f n s_ =
  gIf (0≤((s_.length:Nat):Int)∧((s_.length:Nat):Int)≤((s_.length:Nat):Int)) (
    gIf (0≤(0:Int)∧(0:Int)≤((s_.length:Nat):Int)) (
      gIf (((s_.length:Nat):Int)≤((s_.length:Nat):Int)∧((s_.length:Nat):Int)≤((s_.length:Nat):Int)∧true=true) (
        some (((s_.take (((s_.length:Nat):Int).toNat)).drop 0),())
        )
      )
    ):=(yaj _).trans (by kernel_rfl)
theorem phi (n:Nat):∀ e∈(X n).c.Φ,EntryOk Tryz.prog e:=yaz
theorem ok (n:Nat):FnOk Tryz.prog 111 ia io (fRun (X n) n T Tryz.f111 ia io):=yaM mixed tabIs (phi n) Tryz.func111 (by kernel_rfl) rfl
noncomputable def en (n:Nat):Entry:=yaI 111 ia io (fRun (X n) n T Tryz.f111 ia io)
end ycV
end Go.Proofs.YtcpkhpboemfglaaGreatDoor

namespace Go.Proofs.YtcpkhpboemfglaaGreatDoor
open Go Go.Va Go.Proofs
namespace ybS
abbrev ia:List Ai:=[.dat (.slice (.int .u8))]
abbrev io:List (Nat×Oi):=[(2,.val (.r 0 (.int .u8)))]
abbrev R:Type:=DOut ia io
noncomputable def X (n:Nat):Ctx:=⟨⟨tab,[],0,[]⟩,8,bnOf 0 ia⟩
noncomputable def T:CT := .o
noncomputable def f (n:Nat)(s_:List (Int)):Option R:=fRun (X n) n T Tryz.f112 ia io (s_,())
theorem e0 (n:Nat) (s_:List (Int)):f n s_ =
  bIf ((s_.length==0)) (
    bothC (
      some ([],())
      ) (
      gIf ((([]:List (Int)).length+s_.length)*1≤70368744177664) (
        some ((([]:List (Int))++s_),())
        )
      )
    ) (
    gIf ((([]:List (Int)).length+s_.length)*1≤70368744177664) (
      some ((([]:List (Int))++s_),())
      )
    ):=(yaj _).trans (by kernel_rfl)
theorem phi (n:Nat):∀ e∈(X n).c.Φ,EntryOk Tryz.prog e:=yaz
theorem ok (n:Nat):FnOk Tryz.prog 112 ia io (fRun (X n) n T Tryz.f112 ia io):=yaM mixed tabIs (phi n) Tryz.func112 (by kernel_rfl) rfl
noncomputable def en (n:Nat):Entry:=yaI 112 ia io (fRun (X n) n T Tryz.f112 ia io)
end ybS
end Go.Proofs.YtcpkhpboemfglaaGreatDoor

namespace Go.Proofs.YtcpkhpboemfglaaGreatDoor
open Go Go.Va Go.Proofs
namespace yb0
abbrev ia:List Ai:=[.ptr (.p (.r 0 (.int .u8)) (.d .unit))]
abbrev io:List (Nat×Oi):=[(2,.dat (.slice (.int .u8)))]
abbrev R:Type:=DOut ia io
noncomputable def X (n:Nat):Ctx:=⟨⟨tab,[ycV.en n,ybS.en n],0,[]⟩,11,bnOf 0 ia⟩
noncomputable def T:CT := .o
noncomputable def f (n:Nat)(w_:yaO):Option R:=fRun (X n) n T Tryz.f39 ia io (w_,())
theorem e0 (n:Nat)(w_:yaO):f n w_ =
  bIf ((hide false)) (
    some ([],(w_.1,w_.2),())
    ) (
    bnd (ybS.f n w_.1) λu1=>
    bnd (ycV.f n u1.1) λu2=>
    some (u2.1,(w_.1,w_.2),())
    ):=(yaj _).trans (by kernel_rfl)
theorem phi (n:Nat):∀ e∈(X n).c.Φ,EntryOk Tryz.prog e:=yah (yab (ycV.ok n)) (yah (yab (ybS.ok n)) (yaz))
theorem ok (n:Nat):FnOk Tryz.prog 39 ia io (fRun (X n) n T Tryz.f39 ia io):=yaM mixed tabIs (phi n) Tryz.func39 (by kernel_rfl) rfl
noncomputable def en (n:Nat):Entry:=yaI 39 ia io (fRun (X n) n T Tryz.f39 ia io)
end yb0
end Go.Proofs.YtcpkhpboemfglaaGreatDoor

namespace Go.Proofs.YtcpkhpboemfglaaGreatDoor
open Go Go.Va Go.Proofs
namespace ya9
abbrev ia:List Ai:=[.ptr (.d yaK),.dat (.int .i64)]
abbrev io:List (Nat×Oi):=[]
abbrev R:Type:=DOut ia io
noncomputable def X (n:Nat):Ctx:=⟨⟨tab,[],0,[]⟩,13,bnOf 0 ia⟩
noncomputable def T:CT := .o
noncomputable def f (n:Nat)(r:yat)(e_:Int):Option R:=fRun (X n) n T Tryz.f139 ia io (r,e_,())
theorem e0 (n:Nat)(r:yat)(e_:Int):f n r e_ =
  bIf ((hide (r.2.1==(0:Int)))) (
    some ((r.1,(e_,r.2.2)),())
    ) (
    some (r,())
    ):=(yaj _).trans (by kernel_rfl)
theorem phi (n:Nat):∀ e∈(X n).c.Φ,EntryOk Tryz.prog e:=yaz
theorem ok (n:Nat):FnOk Tryz.prog 139 ia io (fRun (X n) n T Tryz.f139 ia io):=yaM mixed tabIs (phi n) Tryz.func139 (by kernel_rfl) rfl
noncomputable def en (n:Nat):Entry:=yaI 139 ia io (fRun (X n) n T Tryz.f139 ia io)
end ya9
end Go.Proofs.YtcpkhpboemfglaaGreatDoor

namespace Go.Proofs.YtcpkhpboemfglaaGreatDoor
open Go Go.Va Go.Proofs
namespace ybr
abbrev ia:List Ai:=[.ptr (.d yaK),.dat (.int .i64)]
abbrev io:List (Nat×Oi):=[(4,.dat (.slice (.int .u8)))]
abbrev R:Type:=DOut ia io
noncomputable def X (n:Nat):Ctx:=⟨⟨tab,[ya9.en n],0,[]⟩,43,bnOf 0 ia⟩
abbrev g1:List Si:=[.ref 0 500000 yaK,.dat 1 (.int .i64),.box 500000 (.d yaK)]
noncomputable def T:CT:=(.s .o (.s .o (.r g1 .o)))
noncomputable def J1 (n:Nat):Int×yat×Unit→Option R:=jR (X n) n T (yaX Tryz.f149) (endK ia io) g1 [1,1] []
noncomputable def f (n:Nat)(r:yat)(n_:Int):Option R:=fRun (X n) n T Tryz.f149 ia io (r,n_,())
theorem e0 (n:Nat)(r:yat)(n_:Int):f n r n_ =
  bIf ((hide (r.2.1==(0:Int)))) (
    bIf ((hide (decide (n_>((r.1.length:Nat):Int))))) (
      bnd (ya9.f n r 3) λu1=>
      J1 n (n_,u1.1,())
      ) (
      J1 n (n_,r,())
      )
    ) (
    J1 n (n_,r,())
    ):=(yaj _).trans (by kernel_rfl)
theorem e1 (n:Nat) (n_:Int) (r:yat):J1 n (n_,r,()) =
  bIf ((hide (r.2.1 != (0:Int)))) (
    some ([],r,())
    ) (
    gIf (0≤n_∧n_≤((r.1.length:Nat):Int)) (
      gIf (0≤(0:Int)∧(0:Int)≤n_) (
        gIf (0≤((r.1.length:Nat):Int)∧((r.1.length:Nat):Int)≤((r.1.length:Nat):Int)) (
          gIf (0≤n_∧n_≤((r.1.length:Nat):Int)) (
            some (((r.1.take n_.toNat).drop 0),(((r.1.take ((((r.1.length:Nat):Int)).toNat)).drop n_.toNat),r.2),())
            )
          )
        )
      )
    ):=(yaj _).trans (by kernel_rfl)
theorem phi (n:Nat):∀ e∈(X n).c.Φ,EntryOk Tryz.prog e:=yah (yab (ya9.ok n)) (yaz)
theorem ok (n:Nat):FnOk Tryz.prog 149 ia io (fRun (X n) n T Tryz.f149 ia io):=yaM mixed tabIs (phi n) Tryz.func149 (by kernel_rfl) rfl
noncomputable def en (n:Nat):Entry:=yaI 149 ia io (fRun (X n) n T Tryz.f149 ia io)
end ybr
end Go.Proofs.YtcpkhpboemfglaaGreatDoor

namespace Go.Proofs.YtcpkhpboemfglaaGreatDoor
open Go Go.Va Go.Proofs
namespace ya0
abbrev ia:List Ai:=[.ptr (.d yaK)]
abbrev io:List (Nat×Oi):=[(2,.dat (.int .u64))]
abbrev R:Type:=DOut ia io
noncomputable def X (n:Nat):Ctx:=⟨⟨tab,[ya9.en n,ybr.en n,ybs.en n],0,[]⟩,33,bnOf 0 ia⟩
abbrev g1:List Si:=[.ref 0 500000 yaK,.box 500000 (.d yaK)]
noncomputable def T:CT:=(.s .o (.s .o (.r g1 .o)))
noncomputable def J1 (n:Nat):yat×Unit→Option R:=jR (X n) n T (yaX Tryz.f138) (endK ia io) g1 [1,1] []
noncomputable def f (n:Nat)(r:yat):Option R:=fRun (X n) n T Tryz.f138 ia io (r,())
theorem e0 (n:Nat)(r:yat):f n r =
  bIf ((hide false)) (
    some (0,r,())
    ) (
    bIf ((hide (r.2.1 != (0:Int)))) (
      some (0,r,())
      ) (
      J1 n (r,())
      )
    ):=(yaj _).trans (by kernel_rfl)
theorem e1 (n:Nat)(r:yat):J1 n (r,()) =
  bnd (ybs.f n r.1) λu1=>
  bIf ((hide (u1.2.2.1 != (0:Int)))) (
    bnd (ya9.f n r u1.2.2.1) λu2=>
    some (0,u2.1,())
    ) (
    bnd (ybr.f n r u1.2.1) λu3=>
    some (u1.1,u3.2.1,())
    ):=(yaj _).trans (by kernel_rfl)
theorem phi (n:Nat):∀ e∈(X n).c.Φ,EntryOk Tryz.prog e:=yah (yab (ya9.ok n)) (yah (yab (ybr.ok n)) (yah (yab (ybs.ok n)) (yaz)))
theorem ok (n:Nat):FnOk Tryz.prog 138 ia io (fRun (X n) n T Tryz.f138 ia io):=yaM mixed tabIs (phi n) Tryz.func138 (by kernel_rfl) rfl
noncomputable def en (n:Nat):Entry:=yaI 138 ia io (fRun (X n) n T Tryz.f138 ia io)
end ya0
end Go.Proofs.YtcpkhpboemfglaaGreatDoor

namespace Go.Proofs.YtcpkhpboemfglaaGreatDoor
open Go Go.Va Go.Proofs
namespace yaS
abbrev ia:List Ai:=[.ptr (.d yaK),.dat (.int .i64)]
abbrev io:List (Nat×Oi):=[(4,.dat (.int .i64))]
abbrev R:Type:=DOut ia io
noncomputable def X (n:Nat):Ctx:=⟨⟨tab,[ya0.en n,ya9.en n],0,[]⟩,29,bnOf 0 ia⟩
abbrev g1:List Si:=[.ref 0 500000 yaK,.dat 1 (.int .i64),.dat 5 (.int .u64),.box 500000 (.d yaK)]
abbrev g2:List Si:=[.ref 0 500000 yaK,.dat 5 (.int .u64),.dat 24 .bool,.box 500000 (.d yaK)]
abbrev g3:List Si:=[.dat 5 (.int .u64),.box 500000 (.d yaK)]
noncomputable def T:CT:=(.s .o (.s .o (.s .o (.r g1 (.s (.s .o (.r g2 .o)) (.r g3 .o))))))
noncomputable def J1 (n:Nat):Int×Int×yat×Unit→Option R:=jR (X n) n T (yaX Tryz.f66) (endK ia io) g1 [1,1,1] []
noncomputable def J2 (n:Nat):Int×Bool×yat×Unit→Option R:=jR (X n) n T (yaX Tryz.f66) (endK ia io) g2 [1,1,1,0,1] []
noncomputable def J3 (n:Nat):Int×yat×Unit→Option R:=jR (X n) n T (yaX Tryz.f66) (endK ia io) g3 [1,1,1,1] []
noncomputable def f (n:Nat)(r:yat)(most:Int):Option R:=fRun (X n) n T Tryz.f66 ia io (r,most,())
theorem e0 (n:Nat)(r:yat)(most:Int):f n r most =
  bnd (ya0.f n r) λu1=>
  bIf ((hide false)) (
    some (0,u1.2.1,())
    ) (
    bIf ((hide (u1.2.1.2.1 != (0:Int)))) (
      some (0,u1.2.1,())
      ) (
      J1 n (most,u1.1,u1.2.1,())
      )
    ):=(yaj _).trans (by kernel_rfl)
theorem e1 (n:Nat)(most:Int)(n_:Int)(r:yat):J1 n (most,n_,r,()) =
  bIf ((hide (decide (most<(0:Int))))) (
    J2 n (n_,true,r,())
    ) (
    J2 n (n_,(hide (decide (n_>(IntKind.u64.wrap most)))),r,())
    ):=(yaj _).trans (by kernel_rfl)
theorem e2 (n:Nat)(n_:Int)(t24:Bool)(r:yat):J2 n (n_,t24,r,()) =
  bIf (t24) (
    bnd (ya9.f n r 17) λu1=>
    some (0,u1.1,())
    ) (
    J3 n (n_,r,())
    ):=(yaj _).trans (by kernel_rfl)
theorem e3 (n:Nat)(n_:Int)(b500000:yat):J3 n (n_,b500000,()) =
  some ((IntKind.i64.wrap n_),b500000,()):=(yaj _).trans (by kernel_rfl)
theorem phi (n:Nat):∀ e∈(X n).c.Φ,EntryOk Tryz.prog e:=yah (yab (ya0.ok n)) (yah (yab (ya9.ok n)) (yaz))
theorem ok (n:Nat):FnOk Tryz.prog 66 ia io (fRun (X n) n T Tryz.f66 ia io):=yaM mixed tabIs (phi n) Tryz.func66 (by kernel_rfl) rfl
noncomputable def en (n:Nat):Entry:=yaI 66 ia io (fRun (X n) n T Tryz.f66 ia io)
end yaS
end Go.Proofs.YtcpkhpboemfglaaGreatDoor

namespace Go.Proofs.YtcpkhpboemfglaaGreatDoor
open Go Go.Va Go.Proofs
namespace yaQ
abbrev ia:List Ai:=[.fn (.str 1) [(.d yaK)]]
abbrev io:List (Nat×Oi):=[(2,.dat (.int .i64))]
abbrev R:Type:=DOut ia io
noncomputable def X (n:Nat):Ctx:=⟨⟨tab,[yaS.en n],0,[]⟩,6,bnOf 0 ia⟩
noncomputable def T:CT := .o
noncomputable def f (n:Nat)(rc0:yat):Option R:=fRun (X n) n T Tryz.f74 ia io (rc0,())
theorem e0 (n:Nat)(rc0:yat):f n rc0 =
  bnd (yaS.f n rc0 1099511627776) λu1=>
  some (u1.1,u1.2.1,()):=(yaj _).trans (by kernel_rfl)
theorem phi (n:Nat):∀ e∈(X n).c.Φ,EntryOk Tryz.prog e:=yah (yab (yaS.ok n)) (yaz)
theorem ok (n:Nat):FnOk Tryz.prog 74 ia io (fRun (X n) n T Tryz.f74 ia io):=yaM mixed tabIs (phi n) Tryz.func74 (by kernel_rfl) rfl
noncomputable def en (n:Nat):Entry:=yaI 74 ia io (fRun (X n) n T Tryz.f74 ia io)
end yaQ
end Go.Proofs.YtcpkhpboemfglaaGreatDoor

namespace Go.Proofs.YtcpkhpboemfglaaGreatDoor
open Go Go.Va Go.Proofs
namespace ya2
abbrev ia:List Ai:=[.ptr (.d yaK)]
abbrev io:List (Nat×Oi):=[(2,.dat .bool)]
abbrev R:Type:=DOut ia io
noncomputable def X (n:Nat):Ctx:=⟨⟨tab,[ya9.en n,ybr.en n],0,[]⟩,33,bnOf 0 ia⟩
abbrev g1:List Si:=[.ref 0 500000 yaK,.dat 3 (.slice (.int .u8)),.box 500000 (.d yaK)]
noncomputable def T:CT:=(.s .o (.s .o (.s .o (.s .o (.r g1 .o)))))
noncomputable def J1 (n:Nat):(List (Int))×yat×Unit→Option R:=jR (X n) n T (yaX Tryz.f170) (endK ia io) g1 [1,1,1,1] []
noncomputable def f (n:Nat)(r:yat):Option R:=fRun (X n) n T Tryz.f170 ia io (r,())
theorem e0 (n:Nat) (r:yat):f n r =
  bIf ((hide false)) (
    some (false,r,())
    ) (
    bnd (ybr.f n r 1) λu1=>
    bIf ((hide (u1.2.1.2.1==(0:Int)))) (
      gIf (0≤(0:Int)∧(0:Int)<((u1.1.length:Nat):Int)) (
        gNo ((1:Int)<0) (
          bIf ((hide ((shrI .u8 (List.getD u1.1 0 0) 1) != (0:Int)))) (
            bnd (ya9.f n u1.2.1 2) λu2=>
            J1 n (u1.1,u2.1,())
            ) (
            J1 n (u1.1,u1.2.1,())
            )
          )
        )
      ) (
      J1 n (u1.1,u1.2.1,())
      )
    ):=(yaj _).trans (by kernel_rfl)
theorem e1 (n:Nat)(b:List (Int))(r:yat):J1 n (b,r,()) =
  bIf ((hide (r.2.1==(0:Int)))) (
    gIf (0≤(0:Int)∧(0:Int)<((b.length:Nat):Int)) (
      some ((hide ((List.getD b 0 0)==(1:Int))),r,())
      )
    ) (
    some (false,r,())
    ):=(yaj _).trans (by kernel_rfl)
theorem phi (n:Nat):∀ e∈(X n).c.Φ,EntryOk Tryz.prog e:=yah (yab (ya9.ok n)) (yah (yab (ybr.ok n)) (yaz))
theorem ok (n:Nat):FnOk Tryz.prog 170 ia io (fRun (X n) n T Tryz.f170 ia io):=yaM mixed tabIs (phi n) Tryz.func170 (by kernel_rfl) rfl
noncomputable def en (n:Nat):Entry:=yaI 170 ia io (fRun (X n) n T Tryz.f170 ia io)
end ya2
end Go.Proofs.YtcpkhpboemfglaaGreatDoor

namespace Go.Proofs.YtcpkhpboemfglaaGreatDoor
open Go Go.Va Go.Proofs
namespace ybZ
abbrev ia:List Ai:=[.ptr (.d yaK)]
abbrev io:List (Nat×Oi):=[(2,.dat (.int .i64))]
abbrev R:Type:=DOut ia io
noncomputable def X (n:Nat):Ctx:=⟨⟨tab,[ya0.en n,yeW.en n],0,[]⟩,6,bnOf 0 ia⟩
noncomputable def T:CT := .o
noncomputable def f (n:Nat)(r:yat):Option R:=fRun (X n) n T Tryz.f140 ia io (r,())
theorem e0 (n:Nat)(r:yat):f n r =
  bnd (ya0.f n r) λu1=>
  bnd (yeW.f n u1.1) λu2=>
  some (u2.1,u1.2.1,()):=(yaj _).trans (by kernel_rfl)
theorem phi (n:Nat):∀ e∈(X n).c.Φ,EntryOk Tryz.prog e:=yah (yab (ya0.ok n)) (yah (yab (yeW.ok n)) (yaz))
theorem ok (n:Nat):FnOk Tryz.prog 140 ia io (fRun (X n) n T Tryz.f140 ia io):=yaM mixed tabIs (phi n) Tryz.func140 (by kernel_rfl) rfl
noncomputable def en (n:Nat):Entry:=yaI 140 ia io (fRun (X n) n T Tryz.f140 ia io)
end ybZ
end Go.Proofs.YtcpkhpboemfglaaGreatDoor

namespace Go.Proofs.YtcpkhpboemfglaaGreatDoor
open Go Go.Va Go.Proofs
namespace yaw
abbrev ia:List Ai:=[.ptr (.d yaK)]
abbrev io:List (Nat×Oi):=[(2,.dat .str)]
abbrev R:Type:=DOut ia io
noncomputable def X (n:Nat):Ctx:=⟨⟨tab,[yaS.en n,ybr.en n],0,[]⟩,12,bnOf 0 ia⟩
noncomputable def T:CT := .o
noncomputable def f (n:Nat)(r:yat):Option R:=fRun (X n) n T Tryz.f75 ia io (r,())
theorem e0 (n:Nat)(r:yat):f n r =
  bnd (yaS.f n r 16384) λu1=>
  bIf ((hide false)) (
    some ((⟨#[]⟩:ByteArray),u1.2.1,())
    ) (
    bnd (ybr.f n u1.2.1 u1.1) λu2=>
    some ((ya4 u2.1),u2.2.1,())
    ):=(yaj _).trans (by kernel_rfl)
theorem phi (n:Nat):∀ e∈(X n).c.Φ,EntryOk Tryz.prog e:=yah (yab (yaS.ok n)) (yah (yab (ybr.ok n)) (yaz))
theorem ok (n:Nat):FnOk Tryz.prog 75 ia io (fRun (X n) n T Tryz.f75 ia io):=yaM mixed tabIs (phi n) Tryz.func75 (by kernel_rfl) rfl
noncomputable def en (n:Nat):Entry:=yaI 75 ia io (fRun (X n) n T Tryz.f75 ia io)
end yaw
end Go.Proofs.YtcpkhpboemfglaaGreatDoor

namespace Go.Proofs.YtcpkhpboemfglaaGreatDoor
open Go Go.Va Go.Proofs
namespace yb7
abbrev ia:List Ai:=[.fn (.str 1) [(.d yaK)]]
abbrev io:List (Nat×Oi):=[(2,.cel (.d yaC))]
abbrev R:Type:=DOut ia io
noncomputable def X (n:Nat):Ctx:=⟨⟨tab,[yaQ.en n],0,[]⟩,11,bnOf 0 ia⟩
noncomputable def T:CT := .o
noncomputable def f (n:Nat)(rc0:yat):Option R:=fRun (X n) n T Tryz.f141 ia io (rc0,())
theorem e0 (n:Nat)(rc0:yat):f n rc0 =
  bnd (yaQ.f n rc0) λu1=>
  bnd (yaQ.f n u1.2.1) λu2=>
  some ((u1.1,(u2.1,())),u2.2.1,()):=(yaj _).trans (by kernel_rfl)
theorem phi (n:Nat):∀ e∈(X n).c.Φ,EntryOk Tryz.prog e:=yah (yab (yaQ.ok n)) (yaz)
theorem ok (n:Nat):FnOk Tryz.prog 141 ia io (fRun (X n) n T Tryz.f141 ia io):=yaM mixed tabIs (phi n) Tryz.func141 (by kernel_rfl) rfl
noncomputable def en (n:Nat):Entry:=yaI 141 ia io (fRun (X n) n T Tryz.f141 ia io)
end yb7
end Go.Proofs.YtcpkhpboemfglaaGreatDoor

namespace Go.Proofs.YtcpkhpboemfglaaGreatDoor
open Go Go.Va Go.Proofs
namespace ya5
abbrev ia:List Ai:=[.fn (.str 1) [(.d yaK)]]
abbrev io:List (Nat×Oi):=[(2,.val (.r 0 yaJ))]
abbrev R:Type:=DOut ia io
noncomputable def X (n:Nat):Ctx:=⟨⟨tab,[yaS.en n,yaw.en n,ya2.en n],0,[]⟩,32,bnOf 0 ia⟩
abbrev g1:List Si:=[.ref 1 1 ycX,.val 3 (.r 200300 yaJ),.dat 7 (.int .i64),.dat 8 (.int .i64),.box 1 (.p (.al 500000 yaK) (.d .unit)),.box 500000 (.d yaK)]
abbrev g2:List Si:=[.val 3 (.r 200300 yaJ),.box 500000 (.d yaK)]
noncomputable def T:CT:=(.s .o (.s .o (.s (.s .o (.b (.l g1 .o))) (.r g2 .o))))
noncomputable def J1 (n:Nat)(m:Nat):(List (yac))×Int×Int×ycC×yat×Unit→Option R:=jL (X n) n T (yaX Tryz.f143) (endK ia io) g1 [1,1,0,1,0] [] m
noncomputable def J2 (n:Nat):(List (yac))×yat×Unit→Option R:=jR (X n) n T (yaX Tryz.f143) (endK ia io) g2 [1,1,1] []
noncomputable def f (n:Nat)(rc0:yat):Option R:=fRun (X n) n T Tryz.f143 ia io (rc0,())
theorem e0 (n:Nat)(rc0:yat):f n rc0 =
  bnd (yaS.f n rc0 8) λu1=>
  J1 n n ([],u1.1,0,((),()),u1.2.1,()):=(yaj _).trans (by kernel_rfl)
theorem e1 (n m:Nat)(out:List (yac))(t7:Int)(t8:Int)(r:ycC)(b500000:yat):J1 n (m+1) (out,t7,t8,r,b500000,()) =
  bIf ((hide (decide (t8<t7)))) (
    bnd (ya2.f n b500000) λu1=>
    bnd (yaw.f n u1.2.1) λu2=>
    bnd (yaw.f n u2.2.1) λu3=>
    bnd (yaw.f n u3.2.1) λu4=>
    gIf ((out.length+1)*56≤70368744177664) (
      J1 n m ((out++([(u1.1,(u2.1,(u3.1,(u4.1,()))))]:List (yac))),t7,(IntKind.i64.wrap (t8+(1:Int))),((),r.2),u4.2.1,())
      )
    ) (
    J2 n (out,b500000,())
    ):=(yaj _).trans (by kernel_rfl)
theorem e2 (n:Nat)(out:List (yac))(b500000:yat):J2 n (out,b500000,()) =
  some (out,b500000,()):=(yaj _).trans (by kernel_rfl)
theorem phi (n:Nat):∀ e∈(X n).c.Φ,EntryOk Tryz.prog e:=yah (yab (yaS.ok n)) (yah (yab (yaw.ok n)) (yah (yab (ya2.ok n)) (yaz)))
theorem ok (n:Nat):FnOk Tryz.prog 143 ia io (fRun (X n) n T Tryz.f143 ia io):=yaM mixed tabIs (phi n) Tryz.func143 (by kernel_rfl) rfl
noncomputable def en (n:Nat):Entry:=yaI 143 ia io (fRun (X n) n T Tryz.f143 ia io)
end ya5
end Go.Proofs.YtcpkhpboemfglaaGreatDoor

namespace Go.Proofs.YtcpkhpboemfglaaGreatDoor
open Go Go.Va Go.Proofs
namespace ybx
abbrev ia:List Ai:=[.fn (.str 1) [(.d yaK)]]
abbrev io:List (Nat×Oi):=[(2,.cel (.d yaT))]
abbrev R:Type:=DOut ia io
noncomputable def X (n:Nat):Ctx:=⟨⟨tab,[yaQ.en n,ybZ.en n,ya2.en n],0,[]⟩,16,bnOf 0 ia⟩
noncomputable def T:CT := .o
noncomputable def f (n:Nat)(rc0:yat):Option R:=fRun (X n) n T Tryz.f145 ia io (rc0,())
theorem e0 (n:Nat)(rc0:yat):f n rc0 =
  bnd (yaQ.f n rc0) λu1=>
  bnd (ybZ.f n u1.2.1) λu2=>
  bnd (ya2.f n u2.2.1) λu3=>
  some ((u1.1,(u2.1,(u3.1,()))),u3.2.1,()):=(yaj _).trans (by kernel_rfl)
theorem phi (n:Nat):∀ e∈(X n).c.Φ,EntryOk Tryz.prog e:=yah (yab (yaQ.ok n)) (yah (yab (ybZ.ok n)) (yah (yab (ya2.ok n)) (yaz)))
theorem ok (n:Nat):FnOk Tryz.prog 145 ia io (fRun (X n) n T Tryz.f145 ia io):=yaM mixed tabIs (phi n) Tryz.func145 (by kernel_rfl) rfl
noncomputable def en (n:Nat):Entry:=yaI 145 ia io (fRun (X n) n T Tryz.f145 ia io)
end ybx
end Go.Proofs.YtcpkhpboemfglaaGreatDoor

namespace Go.Proofs.YtcpkhpboemfglaaGreatDoor
open Go Go.Va Go.Proofs
namespace yaY
abbrev ia:List Ai:=[.fn (.str 1) [(.d yaK)]]
abbrev io:List (Nat×Oi):=[(2,.val (.r 0 yax))]
abbrev R:Type:=DOut ia io
noncomputable def X (n:Nat):Ctx:=⟨⟨tab,[yaS.en n,yaw.en n],0,[]⟩,23,bnOf 0 ia⟩
abbrev g1:List Si:=[.ref 1 1 ycX,.val 3 (.r 200300 yax),.dat 7 (.int .i64),.dat 8 (.int .i64),.box 1 (.p (.al 500000 yaK) (.d .unit)),.box 500000 (.d yaK)]
abbrev g2:List Si:=[.val 3 (.r 200300 yax),.box 500000 (.d yaK)]
noncomputable def T:CT:=(.s .o (.s .o (.s (.s .o (.b (.l g1 .o))) (.r g2 .o))))
noncomputable def J1 (n:Nat)(m:Nat):(List (yak))×Int×Int×ycC×yat×Unit→Option R:=jL (X n) n T (yaX Tryz.f146) (endK ia io) g1 [1,1,0,1,0] [] m
noncomputable def J2 (n:Nat):(List (yak))×yat×Unit→Option R:=jR (X n) n T (yaX Tryz.f146) (endK ia io) g2 [1,1,1] []
noncomputable def f (n:Nat)(rc0:yat):Option R:=fRun (X n) n T Tryz.f146 ia io (rc0,())
theorem e0 (n:Nat)(rc0:yat):f n rc0 =
  bnd (yaS.f n rc0 8) λu1=>
  J1 n n ([],u1.1,0,((),()),u1.2.1,()):=(yaj _).trans (by kernel_rfl)
theorem e1 (n m:Nat)(out:List (yak))(t7:Int)(t8:Int)(r:ycC)(b500000:yat):J1 n (m+1) (out,t7,t8,r,b500000,()) =
  bIf ((hide (decide (t8<t7)))) (
    bnd (yaw.f n b500000) λu1=>
    bnd (yaw.f n u1.2.1) λu2=>
    gIf ((out.length+1)*32≤70368744177664) (
      J1 n m ((out++([(u1.1,(u2.1,()))]:List (yak))),t7,(IntKind.i64.wrap (t8+(1:Int))),((),r.2),u2.2.1,())
      )
    ) (
    J2 n (out,b500000,())
    ):=(yaj _).trans (by kernel_rfl)
theorem e2 (n:Nat)(out:List (yak))(b500000:yat):J2 n (out,b500000,()) =
  some (out,b500000,()):=(yaj _).trans (by kernel_rfl)
theorem phi (n:Nat):∀ e∈(X n).c.Φ,EntryOk Tryz.prog e:=yah (yab (yaS.ok n)) (yah (yab (yaw.ok n)) (yaz))
theorem ok (n:Nat):FnOk Tryz.prog 146 ia io (fRun (X n) n T Tryz.f146 ia io):=yaM mixed tabIs (phi n) Tryz.func146 (by kernel_rfl) rfl
noncomputable def en (n:Nat):Entry:=yaI 146 ia io (fRun (X n) n T Tryz.f146 ia io)
end yaY
end Go.Proofs.YtcpkhpboemfglaaGreatDoor

namespace Go.Proofs.YtcpkhpboemfglaaGreatDoor
open Go Go.Va Go.Proofs
namespace yba
abbrev ia:List Ai:=[.fn (.str 1) [(.d yaK)]]
abbrev io:List (Nat×Oi):=[(2,.val (.r 0 yaF))]
abbrev R:Type:=DOut ia io
noncomputable def X (n:Nat):Ctx:=⟨⟨tab,[yaS.en n,yaQ.en n,yaw.en n,yaY.en n,ya2.en n],0,[]⟩,33,bnOf 0 ia⟩
abbrev g1:List Si:=[.ref 1 1 ycX,.val 3 (.r 200300 yaF),.dat 7 (.int .i64),.dat 8 (.int .i64),.box 1 (.p (.al 500000 yaK) (.d .unit)),.box 500000 (.d yaK)]
abbrev g2:List Si:=[.val 3 (.r 200300 yaF),.box 500000 (.d yaK)]
noncomputable def T:CT:=(.s .o (.s .o (.s (.s .o (.b (.l g1 .o))) (.r g2 .o))))
noncomputable def J1 (n:Nat)(m:Nat):(List (yag))×Int×Int×ycC×yat×Unit→Option R:=jL (X n) n T (yaX Tryz.f142) (endK ia io) g1 [1,1,0,1,0] [] m
noncomputable def J2 (n:Nat):(List (yag))×yat×Unit→Option R:=jR (X n) n T (yaX Tryz.f142) (endK ia io) g2 [1,1,1] []
noncomputable def f (n:Nat)(rc0:yat):Option R:=fRun (X n) n T Tryz.f142 ia io (rc0,())
theorem e0 (n:Nat)(rc0:yat):f n rc0 =
  bnd (yaS.f n rc0 8) λu1=>
  J1 n n ([],u1.1,0,((),()),u1.2.1,()):=(yaj _).trans (by kernel_rfl)
theorem e1 (n m:Nat)(out:List (yag))(t7:Int)(t8:Int)(r:ycC)(b500000:yat):J1 n (m+1) (out,t7,t8,r,b500000,()) =
  bIf ((hide (decide (t8<t7)))) (
    bnd (yaw.f n b500000) λu1=>
    bnd (yaY.f n u1.2.1) λu2=>
    bnd (yaQ.f n u2.2.1) λu3=>
    bnd (yaQ.f n u3.2.1) λu4=>
    bnd (ya2.f n u4.2.1) λu5=>
    gIf ((out.length+1)*64≤70368744177664) (
      J1 n m ((out++([(u1.1,(u2.1,(u3.1,(u4.1,(u5.1,())))))]:List (yag))),t7,(IntKind.i64.wrap (t8+(1:Int))),((),r.2),u5.2.1,())
      )
    ) (
    J2 n (out,b500000,())
    ):=(yaj _).trans (by kernel_rfl)
theorem e2 (n:Nat)(out:List (yag))(b500000:yat):J2 n (out,b500000,()) =
  some (out,b500000,()):=(yaj _).trans (by kernel_rfl)
theorem phi (n:Nat):∀ e∈(X n).c.Φ,EntryOk Tryz.prog e:=yah (yab (yaS.ok n)) (yah (yab (yaQ.ok n)) (yah (yab (yaw.ok n)) (yah (yab (yaY.ok n)) (yah (yab (ya2.ok n)) (yaz)))))
theorem ok (n:Nat):FnOk Tryz.prog 142 ia io (fRun (X n) n T Tryz.f142 ia io):=yaM mixed tabIs (phi n) Tryz.func142 (by kernel_rfl) rfl
noncomputable def en (n:Nat):Entry:=yaI 142 ia io (fRun (X n) n T Tryz.f142 ia io)
end yba
end Go.Proofs.YtcpkhpboemfglaaGreatDoor

namespace Go.Proofs.YtcpkhpboemfglaaGreatDoor
open Go Go.Va Go.Proofs
namespace yc4
abbrev ia:List Ai:=[.ptr (.d yaK)]
abbrev io:List (Nat×Oi):=[(2,.dat (.int .i64))]
abbrev R:Type:=DOut ia io
noncomputable def X (n:Nat):Ctx:=⟨⟨tab,[],0,[]⟩,9,bnOf 0 ia⟩
noncomputable def T:CT := .o
noncomputable def f (n:Nat)(r:yat):Option R:=fRun (X n) n T Tryz.f148 ia io (r,())
theorem e0 (n:Nat)(r:yat):f n r =
  bIf ((hide false)) (
    some (1,r,())
    ) (
    some (r.2.1,r,())
    ):=(yaj _).trans (by kernel_rfl)
theorem phi (n:Nat):∀ e∈(X n).c.Φ,EntryOk Tryz.prog e:=yaz
theorem ok (n:Nat):FnOk Tryz.prog 148 ia io (fRun (X n) n T Tryz.f148 ia io):=yaM mixed tabIs (phi n) Tryz.func148 (by kernel_rfl) rfl
noncomputable def en (n:Nat):Entry:=yaI 148 ia io (fRun (X n) n T Tryz.f148 ia io)
end yc4
end Go.Proofs.YtcpkhpboemfglaaGreatDoor

namespace Go.Proofs.YtcpkhpboemfglaaGreatDoor
open Go Go.Va Go.Proofs
namespace ycP
abbrev ia:List Ai:=[.ptr (.d yaK)]
abbrev io:List (Nat×Oi):=[(2,.dat (.int .i64))]
abbrev R:Type:=DOut ia io
noncomputable def X (n:Nat):Ctx:=⟨⟨tab,[ya9.en n,yc4.en n],0,[]⟩,24,bnOf 0 ia⟩
abbrev g1:List Si:=[.ref 0 500000 yaK,.box 500000 (.d yaK)]
noncomputable def T:CT:=(.s .o (.s .o (.r g1 .o)))
noncomputable def J1 (n:Nat):yat×Unit→Option R:=jR (X n) n T (yaX Tryz.f68) (endK ia io) g1 [1,1] []
noncomputable def f (n:Nat)(r:yat):Option R:=fRun (X n) n T Tryz.f68 ia io (r,())
theorem e0 (n:Nat) (r:yat):f n r =
  bIf ((hide true)) (
    bIf ((hide (r.2.1==(0:Int)))) (
      bIf ((hide (decide (((r.1.length:Nat):Int)>(0:Int))))) (
        bnd (ya9.f n r 2) λu1=>
        J1 n (u1.1,())
        ) (
        J1 n (r,())
        )
      ) (
      J1 n (r,())
      )
    ) (
    J1 n (r,())
    ):=(yaj _).trans (by kernel_rfl)
theorem e1 (n:Nat)(r:yat):J1 n (r,()) =
  bnd (yc4.f n r) λu1=>
  some (u1.1,u1.2.1,()):=(yaj _).trans (by kernel_rfl)
theorem phi (n:Nat):∀ e∈(X n).c.Φ,EntryOk Tryz.prog e:=yah (yab (ya9.ok n)) (yah (yab (yc4.ok n)) (yaz))
theorem ok (n:Nat):FnOk Tryz.prog 68 ia io (fRun (X n) n T Tryz.f68 ia io):=yaM mixed tabIs (phi n) Tryz.func68 (by kernel_rfl) rfl
noncomputable def en (n:Nat):Entry:=yaI 68 ia io (fRun (X n) n T Tryz.f68 ia io)
end ycP
end Go.Proofs.YtcpkhpboemfglaaGreatDoor

namespace Go.Proofs.YtcpkhpboemfglaaGreatDoor
open Go Go.Va Go.Proofs
namespace ybb
abbrev ia:List Ai:=[.dat (.int .i64)]
abbrev io:List (Nat×Oi):=[(2,.dat .bool)]
abbrev R:Type:=DOut ia io
noncomputable def X (n:Nat):Ctx:=⟨⟨tab,[],0,[]⟩,9,bnOf 0 ia⟩
noncomputable def T:CT := .o
noncomputable def f (n:Nat)(kind:Int):Option R:=fRun (X n) n T Tryz.f166 ia io (kind,())
theorem e0 (n:Nat)(kind:Int):f n kind =
  bIf ((hide (kind==(21:Int)))) (
    some (true,())
    ) (
    some ((hide (kind==(22:Int))),())
    ):=(yaj _).trans (by kernel_rfl)
theorem phi (n:Nat):∀ e∈(X n).c.Φ,EntryOk Tryz.prog e:=yaz
theorem ok (n:Nat):FnOk Tryz.prog 166 ia io (fRun (X n) n T Tryz.f166 ia io):=yaM mixed tabIs (phi n) Tryz.func166 (by kernel_rfl) rfl
noncomputable def en (n:Nat):Entry:=yaI 166 ia io (fRun (X n) n T Tryz.f166 ia io)
end ybb
end Go.Proofs.YtcpkhpboemfglaaGreatDoor

namespace Go.Proofs.YtcpkhpboemfglaaGreatDoor
open Go Go.Va Go.Proofs
namespace yev
abbrev ia:List Ai:=[.dat yas]
abbrev io:List (Nat×Oi):=[(2,.dat .bool)]
abbrev R:Type:=DOut ia io
noncomputable def X (n:Nat):Ctx:=⟨⟨tab,[],0,[]⟩,89,bnOf 0 ia⟩
noncomputable def T:CT := .o
noncomputable def f (n:Nat)(r:yao):Option R:=fRun (X n) n T Tryz.f168 ia io (r,())
theorem e0 (n : Nat) (r : yao):f n r =
  bIf ((hide (eqS r.2.2.2.1 (⟨#[]⟩:ByteArray)))) (
    bIf ((hide (r.2.2.2.2.1 == (0:Int)))) (
      bIf ((hide (((r.2.2.2.2.2.1.length:Nat):Int)==(0:Int)))) (
        bIf ((hide (((r.2.2.2.2.2.2.1.length:Nat):Int)==(0:Int)))) (
          bIf ((hide (eqD yaT r.2.2.2.2.2.2.2.1 (0,(0,(false,())))))) (
            bIf ((!r.2.2.2.2.2.2.2.2.1)) (
              bIf ((hide (eqD yaC r.2.2.2.2.2.2.2.2.2.1 (0,(0,()))))) (
                bIf ((hide (((r.2.2.2.2.2.2.2.2.2.2.1.length:Nat):Int)==(0:Int)))) (
                  bIf ((hide (((r.2.2.2.2.2.2.2.2.2.2.2.1.length:Nat):Int)==(0:Int)))) (
                    bIf ((hide (r.2.2.2.2.2.2.2.2.2.2.2.2.1==(0:Int)))) (
                      bIf ((hide (((r.2.2.2.2.2.2.2.2.2.2.2.2.2.1.length:Nat):Int)==(0:Int)))) (
                        bIf ((hide (eqS r.2.2.2.2.2.2.2.2.2.2.2.2.2.2.1 (⟨#[]⟩:ByteArray)))) (
                          bIf ((hide (eqS r.2.2.2.2.2.2.2.2.2.2.2.2.2.2.2.1 (⟨#[]⟩:ByteArray)))) (
                            bIf ((hide (eqS r.2.2.2.2.2.2.2.2.2.2.2.2.2.2.2.2.1 (⟨#[]⟩:ByteArray)))) (
                              bIf ((hide (eqD ya1 r.2.2.2.2.2.2.2.2.2.2.2.2.2.2.2.2.2.1 ((⟨#[]⟩:ByteArray),((⟨#[]⟩:ByteArray),(0,())))))) (
                                some ((hide (r.2.2.2.2.2.2.2.2.2.2.2.2.2.2.2.2.2.2.1==(0:Int))),())
                                ) (
                                some (false,())
                                )
                              ) (
                              some (false,())
                              )
                            ) (
                            some (false,())
                            )
                          ) (
                          some (false,())
                          )
                        ) (
                        some (false,())
                        )
                      ) (
                      some (false,())
                      )
                    ) (
                    some (false,())
                    )
                  ) (
                  some (false,())
                  )
                ) (
                some (false,())
                )
              ) (
              some (false,())
              )
            ) (
            some (false,())
            )
          ) (
          some (false,())
          )
        ) (
        some (false,())
        )
      ) (
      some (false,())
      )
    ) (
    some (false,())
    ):=(yaj _).trans (by kernel_rfl)
theorem phi (n:Nat):∀ e∈(X n).c.Φ,EntryOk Tryz.prog e:=yaz
theorem ok (n:Nat):FnOk Tryz.prog 168 ia io (fRun (X n) n T Tryz.f168 ia io):=yaM mixed tabIs (phi n) Tryz.func168 (by kernel_rfl) rfl
noncomputable def en (n:Nat):Entry:=yaI 168 ia io (fRun (X n) n T Tryz.f168 ia io)
end yev
end Go.Proofs.YtcpkhpboemfglaaGreatDoor

namespace Go.Proofs.YtcpkhpboemfglaaGreatDoor
open Go Go.Va Go.Proofs
namespace yde
abbrev ia:List Ai:=[.dat .str]
abbrev io:List (Nat×Oi):=[(2,.dat .bool)]
abbrev R:Type:=DOut ia io
noncomputable def X (n:Nat):Ctx:=⟨⟨tab,[ybk.en n],0,[]⟩,10,bnOf 0 ia⟩
noncomputable def T:CT := .o
noncomputable def f (n:Nat)(s_:ByteArray):Option R:=fRun (X n) n T Tryz.f201 ia io (s_,())
theorem e0 (n:Nat)(s_:ByteArray):f n s_ =
  bIf ((hide (decide ((s_.size:Int)≤(200:Int))))) (
    bnd (ybk.f n s_) λu1=>
    some (u1.1,())
    ) (
    some (false,())
    ):=(yaj _).trans (by kernel_rfl)
theorem phi (n:Nat):∀ e∈(X n).c.Φ,EntryOk Tryz.prog e:=yah (yab (ybk.ok n)) (yaz)
theorem ok (n:Nat):FnOk Tryz.prog 201 ia io (fRun (X n) n T Tryz.f201 ia io):=yaM mixed tabIs (phi n) Tryz.func201 (by kernel_rfl) rfl
noncomputable def en (n:Nat):Entry:=yaI 201 ia io (fRun (X n) n T Tryz.f201 ia io)
end yde
end Go.Proofs.YtcpkhpboemfglaaGreatDoor

namespace Go.Proofs.YtcpkhpboemfglaaGreatDoor
open Go Go.Va Go.Proofs
namespace yaN
abbrev ia:List Ai:=[.ptr (.d ybl),.dat .bool]
abbrev io:List (Nat×Oi):=[(4,.arg 0 500000 (.d ybl))]
abbrev R:Type:=DOut ia io
noncomputable def X (n:Nat):Ctx:=⟨⟨tab,[],0,[]⟩,16,bnOf 0 ia⟩
noncomputable def T:CT := .o
noncomputable def f (n:Nat)(s_:ybo)(ok_:Bool):Option R:=fRun (X n) n T Tryz.f193 ia io (s_,ok_,())
theorem e0 (n:Nat)(s_:ybo)(ok_:Bool):f n s_ ok_ =
  bIf (s_.2.1) (
    some ((s_.1,(ok_,s_.2.2)),())
    ) (
    some ((s_.1,(false,s_.2.2)),())
    ):=(yaj _).trans (by kernel_rfl)
theorem phi (n:Nat):∀ e∈(X n).c.Φ,EntryOk Tryz.prog e:=yaz
theorem ok (n:Nat):FnOk Tryz.prog 193 ia io (fRun (X n) n T Tryz.f193 ia io):=yaM mixed tabIs (phi n) Tryz.func193 (by kernel_rfl) rfl
noncomputable def en (n:Nat):Entry:=yaI 193 ia io (fRun (X n) n T Tryz.f193 ia io)
end yaN
end Go.Proofs.YtcpkhpboemfglaaGreatDoor

namespace Go.Proofs.YtcpkhpboemfglaaGreatDoor
open Go Go.Va Go.Proofs
namespace ycO
abbrev ia:List Ai:=[.ptr (.d ybl)]
abbrev io:List (Nat×Oi):=[(2,.arg 0 500000 (.d ybl))]
abbrev R:Type:=DOut ia io
noncomputable def X (n:Nat):Ctx:=⟨⟨tab,[yaN.en n],0,[]⟩,16,bnOf 0 ia⟩
noncomputable def T:CT := .o
noncomputable def f (n:Nat)(s_:ybo):Option R:=fRun (X n) n T Tryz.f195 ia io (s_,())
theorem e0 (n:Nat)(s_:ybo):f n s_ =
  bnd (yaN.f n s_ (hide (decide (((s_.1.2.2.2.2.2.1.length:Nat):Int)≤(1024:Int))))) λu1=>
  some (((u1.1.1.1,(u1.1.1.2.1,(u1.1.1.2.2.1,(u1.1.1.2.2.2.1,(u1.1.1.2.2.2.2.1,([],u1.1.1.2.2.2.2.2.2)))))),u1.1.2),()):=(yaj _).trans (by kernel_rfl)
theorem phi (n:Nat):∀ e∈(X n).c.Φ,EntryOk Tryz.prog e:=yah (yab (yaN.ok n)) (yaz)
theorem ok (n:Nat):FnOk Tryz.prog 195 ia io (fRun (X n) n T Tryz.f195 ia io):=yaM mixed tabIs (phi n) Tryz.func195 (by kernel_rfl) rfl
noncomputable def en (n:Nat):Entry:=yaI 195 ia io (fRun (X n) n T Tryz.f195 ia io)
end ycO
end Go.Proofs.YtcpkhpboemfglaaGreatDoor

namespace Go.Proofs.YtcpkhpboemfglaaGreatDoor
open Go Go.Va Go.Proofs
namespace ycx
abbrev ia:List Ai:=[.ptr (.d ybl)]
abbrev io:List (Nat×Oi):=[(2,.arg 0 500000 (.d ybl))]
abbrev R:Type:=DOut ia io
noncomputable def X (n:Nat):Ctx:=⟨⟨tab,[],0,[]⟩,8,bnOf 0 ia⟩
noncomputable def T:CT := .o
noncomputable def f (n:Nat)(s_:ybo):Option R:=fRun (X n) n T Tryz.f199 ia io (s_,())
theorem e0 (n:Nat)(s_:ybo):f n s_ =
  some (((s_.1.1,(s_.1.2.1,(s_.1.2.2.1,(s_.1.2.2.2.1,(s_.1.2.2.2.2.1,(s_.1.2.2.2.2.2.1,(s_.1.2.2.2.2.2.2.1,(s_.1.2.2.2.2.2.2.2.1,(false,s_.1.2.2.2.2.2.2.2.2.2))))))))),s_.2),()):=(yaj _).trans (by kernel_rfl)
theorem phi (n:Nat):∀ e∈(X n).c.Φ,EntryOk Tryz.prog e:=yaz
theorem ok (n:Nat):FnOk Tryz.prog 199 ia io (fRun (X n) n T Tryz.f199 ia io):=yaM mixed tabIs (phi n) Tryz.func199 (by kernel_rfl) rfl
noncomputable def en (n:Nat):Entry:=yaI 199 ia io (fRun (X n) n T Tryz.f199 ia io)
end ycx
end Go.Proofs.YtcpkhpboemfglaaGreatDoor

namespace Go.Proofs.YtcpkhpboemfglaaGreatDoor
open Go Go.Va Go.Proofs
namespace ycf
abbrev ia:List Ai:=[.ptr (.d ybl),.dat .bool]
abbrev io:List (Nat×Oi):=[(4,.arg 0 500000 (.d ybl))]
abbrev R:Type:=DOut ia io
noncomputable def X (n:Nat):Ctx:=⟨⟨tab,[yaN.en n],0,[]⟩,13,bnOf 0 ia⟩
noncomputable def T:CT := .o
noncomputable def f (n:Nat)(s_:ybo)(ok_:Bool):Option R:=fRun (X n) n T Tryz.f202 ia io (s_,ok_,())
theorem e0 (n:Nat)(s_:ybo)(ok_:Bool):f n s_ ok_ =
  bnd (yaN.f n s_ ok_) λu1=>
  some (((u1.1.1.1,(u1.1.1.2.1,(u1.1.1.2.2.1,(u1.1.1.2.2.2.1,(u1.1.1.2.2.2.2.1,(u1.1.1.2.2.2.2.2.1,(u1.1.1.2.2.2.2.2.2.1,(u1.1.1.2.2.2.2.2.2.2.1,(u1.1.1.2.2.2.2.2.2.2.2.1,(u1.1.1.2.2.2.2.2.2.2.2.2.1,(u1.1.1.2.2.2.2.2.2.2.2.2.2.1,(u1.1.1.2.2.2.2.2.2.2.2.2.2.2.1,(u1.1.1.2.2.2.2.2.2.2.2.2.2.2.2.1,(u1.1.1.2.2.2.2.2.2.2.2.2.2.2.2.2.1,(u1.1.1.2.2.2.2.2.2.2.2.2.2.2.2.2.2.1,(u1.1.1.2.2.2.2.2.2.2.2.2.2.2.2.2.2.2.1,(u1.1.1.2.2.2.2.2.2.2.2.2.2.2.2.2.2.2.2.1,(((⟨#[]⟩:ByteArray),((⟨#[]⟩:ByteArray),(0,()))),u1.1.1.2.2.2.2.2.2.2.2.2.2.2.2.2.2.2.2.2.2)))))))))))))))))),u1.1.2),()):=(yaj _).trans (by kernel_rfl)
theorem phi (n:Nat):∀ e∈(X n).c.Φ,EntryOk Tryz.prog e:=yah (yab (yaN.ok n)) (yaz)
theorem ok (n:Nat):FnOk Tryz.prog 202 ia io (fRun (X n) n T Tryz.f202 ia io):=yaM mixed tabIs (phi n) Tryz.func202 (by kernel_rfl) rfl
noncomputable def en (n:Nat):Entry:=yaI 202 ia io (fRun (X n) n T Tryz.f202 ia io)
end ycf
end Go.Proofs.YtcpkhpboemfglaaGreatDoor

namespace Go.Proofs.YtcpkhpboemfglaaGreatDoor
open Go Go.Va Go.Proofs
namespace yb4
abbrev ia:List Ai:=[.ptr (.d ybl),.dat (.int .u64)]
abbrev io:List (Nat×Oi):=[(4,.arg 0 500000 (.d ybl))]
abbrev R:Type:=DOut ia io
noncomputable def X (n:Nat):Ctx:=⟨⟨tab,[yaN.en n],0,[]⟩,18,bnOf 0 ia⟩
noncomputable def T:CT := .o
noncomputable def f (n:Nat)(s_:ybo)(least:Int):Option R:=fRun (X n) n T Tryz.f198 ia io (s_,least,())
theorem e0 (n:Nat)(s_:ybo)(least:Int):f n s_ least =
  bnd (yaN.f n s_ (hide (decide (s_.1.2.2.2.2.1≥least)))) λu1=>
  some (((u1.1.1.1,(u1.1.1.2.1,(u1.1.1.2.2.1,(u1.1.1.2.2.2.1,(0,u1.1.1.2.2.2.2.2))))),u1.1.2),()):=(yaj _).trans (by kernel_rfl)
theorem phi (n:Nat):∀ e∈(X n).c.Φ,EntryOk Tryz.prog e:=yah (yab (yaN.ok n)) (yaz)
theorem ok (n:Nat):FnOk Tryz.prog 198 ia io (fRun (X n) n T Tryz.f198 ia io):=yaM mixed tabIs (phi n) Tryz.func198 (by kernel_rfl) rfl
noncomputable def en (n:Nat):Entry:=yaI 198 ia io (fRun (X n) n T Tryz.f198 ia io)
end yb4
end Go.Proofs.YtcpkhpboemfglaaGreatDoor

namespace Go.Proofs.YtcpkhpboemfglaaGreatDoor
open Go Go.Va Go.Proofs
namespace ybK
abbrev ia:List Ai:=[.ptr (.d ybl)]
abbrev io:List (Nat×Oi):=[(2,.arg 0 500000 (.d ybl))]
abbrev R:Type:=DOut ia io
noncomputable def X (n:Nat):Ctx:=⟨⟨tab,[ydz.en n,yaN.en n],0,[]⟩,15,bnOf 0 ia⟩
noncomputable def T:CT := .o
noncomputable def f (n:Nat)(s_:ybo):Option R:=fRun (X n) n T Tryz.f194 ia io (s_,())
theorem e0 (n:Nat)(s_:ybo):f n s_ =
  bnd (ydz.f n s_.1.2.2.2.1) λu1=>
  bnd (yaN.f n s_ u1.1) λu2=>
  some (((u2.1.1.1,(u2.1.1.2.1,(u2.1.1.2.2.1,((⟨#[]⟩:ByteArray),u2.1.1.2.2.2.2)))),u2.1.2),()):=(yaj _).trans (by kernel_rfl)
theorem phi (n:Nat):∀ e∈(X n).c.Φ,EntryOk Tryz.prog e:=yah (yab (ydz.ok n)) (yah (yab (yaN.ok n)) (yaz))
theorem ok (n:Nat):FnOk Tryz.prog 194 ia io (fRun (X n) n T Tryz.f194 ia io):=yaM mixed tabIs (phi n) Tryz.func194 (by kernel_rfl) rfl
noncomputable def en (n:Nat):Entry:=yaI 194 ia io (fRun (X n) n T Tryz.f194 ia io)
end ybK
end Go.Proofs.YtcpkhpboemfglaaGreatDoor

namespace Go.Proofs.YtcpkhpboemfglaaGreatDoor
open Go Go.Va Go.Proofs
namespace ycD
abbrev ia:List Ai:=[.ptr (.d ybl),.dat .bool]
abbrev io:List (Nat×Oi):=[(4,.arg 0 500000 (.d ybl))]
abbrev R:Type:=DOut ia io
noncomputable def X (n:Nat):Ctx:=⟨⟨tab,[yc8.en n,yaN.en n],0,[]⟩,21,bnOf 0 ia⟩
noncomputable def T:CT := .o
noncomputable def f (n:Nat)(s_:ybo)(ok_:Bool):Option R:=fRun (X n) n T Tryz.f197 ia io (s_,ok_,())
theorem e0 (n:Nat)(s_:ybo)(ok_:Bool):f n s_ ok_ =
  bnd (yc8.f n s_.1.2.2.2.2.2.2.2.1) λu1=>
  bIf (u1.1) (
    bnd (yaN.f n s_ ok_) λu2=>
    some (((u2.1.1.1,(u2.1.1.2.1,(u2.1.1.2.2.1,(u2.1.1.2.2.2.1,(u2.1.1.2.2.2.2.1,(u2.1.1.2.2.2.2.2.1,(u2.1.1.2.2.2.2.2.2.1,((0,(0,(false,()))),u2.1.1.2.2.2.2.2.2.2.2)))))))),u2.1.2),())
    ) (
    bnd (yaN.f n s_ false) λu3=>
    some (((u3.1.1.1,(u3.1.1.2.1,(u3.1.1.2.2.1,(u3.1.1.2.2.2.1,(u3.1.1.2.2.2.2.1,(u3.1.1.2.2.2.2.2.1,(u3.1.1.2.2.2.2.2.2.1,((0,(0,(false,()))),u3.1.1.2.2.2.2.2.2.2.2)))))))),u3.1.2),())
    ):=(yaj _).trans (by kernel_rfl)
theorem phi (n:Nat):∀ e∈(X n).c.Φ,EntryOk Tryz.prog e:=yah (yab (yc8.ok n)) (yah (yab (yaN.ok n)) (yaz))
theorem ok (n:Nat):FnOk Tryz.prog 197 ia io (fRun (X n) n T Tryz.f197 ia io):=yaM mixed tabIs (phi n) Tryz.func197 (by kernel_rfl) rfl
noncomputable def en (n:Nat):Entry:=yaI 197 ia io (fRun (X n) n T Tryz.f197 ia io)
end ycD
end Go.Proofs.YtcpkhpboemfglaaGreatDoor

namespace Go.Proofs.YtcpkhpboemfglaaGreatDoor
open Go Go.Va Go.Proofs
namespace ycB
abbrev ia:List Ai:=[.ptr (.d ybl)]
abbrev io:List (Nat×Oi):=[(2,.arg 0 500000 (.d ybl))]
abbrev R:Type:=DOut ia io
noncomputable def X (n:Nat):Ctx:=⟨⟨tab,[yaN.en n,yde.en n],0,[]⟩,36,bnOf 0 ia⟩
abbrev g1:List Si:=[.ref 0 500000 ybl,.box 500000 (.d ybl)]
noncomputable def T:CT:=(.s .o (.s .o (.r g1 .o)))
noncomputable def J1 (n:Nat):ybo×Unit→Option R:=jR (X n) n T (yaX Tryz.f200) (endK ia io) g1 [1,1] []
noncomputable def f (n:Nat)(s_:ybo):Option R:=fRun (X n) n T Tryz.f200 ia io (s_,())
theorem e0 (n:Nat)(s_:ybo):f n s_ =
  bnd (yde.f n s_.1.2.2.2.2.2.2.2.2.2.2.2.2.2.2.2.1) λu1=>
  bIf (u1.1) (
    bIf ((hide (decide (s_.1.2.2.2.2.2.2.2.2.2.2.2.2.2.2.2.2.2.2.1≥(1:Int))))) (
      bnd (yaN.f n s_ (hide (decide (s_.1.2.2.2.2.2.2.2.2.2.2.2.2.2.2.2.2.2.2.1≤(100:Int))))) λu2=>
      J1 n (u2.1,())
      ) (
      bnd (yaN.f n s_ false) λu3=>
      J1 n (u3.1,())
      )
    ) (
    bnd (yaN.f n s_ false) λu4=>
    J1 n (u4.1,())
    ):=(yaj _).trans (by kernel_rfl)
theorem e1 (n:Nat)(s_:ybo):J1 n (s_,()) =
  some (((s_.1.1,(s_.1.2.1,(s_.1.2.2.1,(s_.1.2.2.2.1,(s_.1.2.2.2.2.1,(s_.1.2.2.2.2.2.1,(s_.1.2.2.2.2.2.2.1,(s_.1.2.2.2.2.2.2.2.1,(s_.1.2.2.2.2.2.2.2.2.1,(s_.1.2.2.2.2.2.2.2.2.2.1,(s_.1.2.2.2.2.2.2.2.2.2.2.1,(s_.1.2.2.2.2.2.2.2.2.2.2.2.1,(s_.1.2.2.2.2.2.2.2.2.2.2.2.2.1,(s_.1.2.2.2.2.2.2.2.2.2.2.2.2.2.1,(s_.1.2.2.2.2.2.2.2.2.2.2.2.2.2.2.1,((⟨#[]⟩:ByteArray),(s_.1.2.2.2.2.2.2.2.2.2.2.2.2.2.2.2.2.1,(s_.1.2.2.2.2.2.2.2.2.2.2.2.2.2.2.2.2.2.1,(0,s_.1.2.2.2.2.2.2.2.2.2.2.2.2.2.2.2.2.2.2.2))))))))))))))))))),s_.2),()):=(yaj _).trans (by kernel_rfl)
theorem phi (n:Nat):∀ e∈(X n).c.Φ,EntryOk Tryz.prog e:=yah (yab (yaN.ok n)) (yah (yab (yde.ok n)) (yaz))
theorem ok (n:Nat):FnOk Tryz.prog 200 ia io (fRun (X n) n T Tryz.f200 ia io):=yaM mixed tabIs (phi n) Tryz.func200 (by kernel_rfl) rfl
noncomputable def en (n:Nat):Entry:=yaI 200 ia io (fRun (X n) n T Tryz.f200 ia io)
end ycB
end Go.Proofs.YtcpkhpboemfglaaGreatDoor

namespace Go.Proofs.YtcpkhpboemfglaaGreatDoor
open Go Go.Va Go.Proofs
namespace ycF
abbrev ia:List Ai:=[.ptr (.d ybl)]
abbrev io:List (Nat×Oi):=[(2,.arg 0 500000 (.d ybl))]
abbrev R:Type:=DOut ia io
noncomputable def X (n:Nat):Ctx:=⟨⟨tab,[ych.en n,yaN.en n],0,[]⟩,15,bnOf 0 ia⟩
noncomputable def T:CT := .o
noncomputable def f (n:Nat)(s_:ybo):Option R:=fRun (X n) n T Tryz.f196 ia io (s_,())
theorem e0 (n:Nat)(s_:ybo):f n s_ =
  bnd (ych.f n s_.1.2.2.2.2.2.2.1) λu1=>
  bnd (yaN.f n s_ u1.1) λu2=>
  some (((u2.1.1.1,(u2.1.1.2.1,(u2.1.1.2.2.1,(u2.1.1.2.2.2.1,(u2.1.1.2.2.2.2.1,(u2.1.1.2.2.2.2.2.1,([],u2.1.1.2.2.2.2.2.2.2))))))),u2.1.2),()):=(yaj _).trans (by kernel_rfl)
theorem phi (n:Nat):∀ e∈(X n).c.Φ,EntryOk Tryz.prog e:=yah (yab (ych.ok n)) (yah (yab (yaN.ok n)) (yaz))
theorem ok (n:Nat):FnOk Tryz.prog 196 ia io (fRun (X n) n T Tryz.f196 ia io):=yaM mixed tabIs (phi n) Tryz.func196 (by kernel_rfl) rfl
noncomputable def en (n:Nat):Entry:=yaI 196 ia io (fRun (X n) n T Tryz.f196 ia io)
end ycF
end Go.Proofs.YtcpkhpboemfglaaGreatDoor

namespace Go.Proofs.YtcpkhpboemfglaaGreatDoor
open Go Go.Va Go.Proofs
namespace yae
abbrev ia:List Ai:=[.ptr (.d ybl)]
abbrev io:List (Nat×Oi):=[]
abbrev R:Type:=DOut ia io
noncomputable def X (n:Nat):Ctx:=⟨⟨tab,[ybR.en n,ydz.en n,yee.en n,ydW.en n,ydK.en n,yaN.en n,ybK.en n,ycO.en n,ycF.en n,ycD.en n,yb4.en n,ycx.en n,ycB.en n,yde.en n,ycf.en n],0,[]⟩,192,bnOf 0 ia⟩
abbrev g1:List Si:=[.ref 0 500000 ybl,.ref 2 2 yas,.dat 8 (.int .i64),.dat 11 .bool,.box 2 (.d yas),.box 500000 (.d ybl)]
abbrev g2:List Si:=[.ref 0 500000 ybl,.ref 2 2 yas,.dat 8 (.int .i64),.dat 23 .bool,.box 2 (.d yas),.box 500000 (.d ybl)]
abbrev g3:List Si:=[.ref 0 500000 ybl,.ref 2 2 yas,.dat 8 (.int .i64),.dat 54 .bool,.box 2 (.d yas),.box 500000 (.d ybl)]
abbrev g4:List Si:=[.ref 0 500000 ybl,.box 500000 (.d ybl)]
noncomputable def T:CT:=(.s .o (.s .o (.b (.s .o (.r g1 (.c .o (.s .o (.r g2 (.c .o (.s .o (.c .o (.s .o (.c .o (.s .o (.c .o (.s .o (.r g3 (.c .o (.s .o (.c .o (.s .o (.c .o (.s .o (.c .o (.s .o (.c .o (.s .o (.c .o (.s .o (.c (.s .o (.r g4 .o)) .o))))))))))))))))))))))))))))))
noncomputable def J1 (n:Nat):Int×Bool×yao×ybo×Unit→Option R:=jR (X n) n T (yaX Tryz.f167) (endK ia io) g1 [1,1,0,1] []
noncomputable def J2 (n:Nat):Int×Bool×yao×ybo×Unit→Option R:=jR (X n) n T (yaX Tryz.f167) (endK ia io) g2 [1,1,0,1,1,1] []
noncomputable def J3 (n:Nat):Int×Bool×yao×ybo×Unit→Option R:=jR (X n) n T (yaX Tryz.f167) (endK ia io) g3 [1,1,0,1,1,1,1,1,1,1,1,1,1,1] []
noncomputable def J4 (n:Nat):ybo×Unit→Option R:=jR (X n) n T (yaX Tryz.f167) (endK ia io) g4 [1,1,0,1,1,1,1,1,1,1,1,1,1,1,1,1,1,1,1,1,1,1,1,1,1,1,0,1] []
noncomputable def f (n:Nat)(t:ybo):Option R:=fRun (X n) n T Tryz.f167 ia io (t,())
theorem e0 (n:Nat)(t:ybo):f n t =
  bIf ((hide (t.1.1==(1:Int)))) (
    J1 n (t.1.1,true,t.1,t,())
    ) (
    J1 n (t.1.1,(hide (t.1.1==(3:Int))),t.1,t,())
    ):=(yaj _).trans (by kernel_rfl)
theorem e1 (n:Nat) (t8:Int) (t11:Bool) (A:yao) (t:ybo):J1 n (t8,t11,A,t,()) =
  bIf (t11) (
    bnd (yee.f n A.2.2.2.2.2.2.2.2.2.1) λu1=>
    bnd (yaN.f n t u1.1) λu2=>
    some (((u2.1.1.1,(u2.1.1.2.1,(u2.1.1.2.2.1,(u2.1.1.2.2.2.1,(u2.1.1.2.2.2.2.1,(u2.1.1.2.2.2.2.2.1,(u2.1.1.2.2.2.2.2.2.1,(u2.1.1.2.2.2.2.2.2.2.1,(u2.1.1.2.2.2.2.2.2.2.2.1,((0,(0,())),u2.1.1.2.2.2.2.2.2.2.2.2.2)))))))))),u2.1.2),())
    ) (
    bIf ((hide (t8==(2:Int)))) (
      J2 n (t8,true,A,t,())
      ) (
      bIf ((hide (t8==(21:Int)))) (
        J2 n (t8,true,A,t,())
        ) (
        J2 n (t8,(hide (t8==(22:Int))),A,t,())
        )
      )
    ):=(yaj _).trans (by kernel_rfl)
theorem e2 (n:Nat) (t8:Int) (t23:Bool) (A:yao) (t:ybo):J2 n (t8,t23,A,t,()) =
  bIf (t23) (
    some (t,())
    ) (
    bIf ((hide (t8==(4:Int)))) (
      bnd (ydW.f n A.2.2.2.2.2.2.2.2.2.2.1) λu1=>
      bnd (yaN.f n t u1.1) λu2=>
      some (((u2.1.1.1,(u2.1.1.2.1,(u2.1.1.2.2.1,(u2.1.1.2.2.2.1,(u2.1.1.2.2.2.2.1,(u2.1.1.2.2.2.2.2.1,(u2.1.1.2.2.2.2.2.2.1,(u2.1.1.2.2.2.2.2.2.2.1,(u2.1.1.2.2.2.2.2.2.2.2.1,(u2.1.1.2.2.2.2.2.2.2.2.2.1,([],u2.1.1.2.2.2.2.2.2.2.2.2.2.2))))))))))),u2.1.2),())
      ) (
      bIf ((hide (t8==(5:Int)))) (
        bnd (ydK.f n A.2.2.2.2.2.2.2.2.2.2.2.1) λu3=>
        bnd (yaN.f n t u3.1) λu4=>
        some (((u4.1.1.1,(u4.1.1.2.1,(u4.1.1.2.2.1,(u4.1.1.2.2.2.1,(u4.1.1.2.2.2.2.1,(u4.1.1.2.2.2.2.2.1,(u4.1.1.2.2.2.2.2.2.1,(u4.1.1.2.2.2.2.2.2.2.1,(u4.1.1.2.2.2.2.2.2.2.2.1,(u4.1.1.2.2.2.2.2.2.2.2.2.1,(u4.1.1.2.2.2.2.2.2.2.2.2.2.1,([],u4.1.1.2.2.2.2.2.2.2.2.2.2.2.2)))))))))))),u4.1.2),())
        ) (
        bIf ((hide (t8==(6:Int)))) (
          bnd (ybK.f n t) λu5=>
          bnd (ycO.f n u5.1) λu6=>
          bnd (ycF.f n u6.1) λu7=>
          bnd (ycD.f n u7.1 true) λu8=>
          some (u8.1,())
          ) (
          bIf ((hide (t8==(7:Int)))) (
            J3 n (t8,true,A,t,())
            ) (
            J3 n (t8,(hide (t8==(8:Int))),A,t,())
            )
          )
        )
      )
    ):=(yaj _).trans (by kernel_rfl)
theorem e3 (n : Nat) (t8 : Int) (t54:Bool) (A:yao) (t:ybo):J3 n (t8,t54,A,t,()) =
  bIf (t54) (
    bnd (ybK.f n t) λu1=>
    bnd (yb4.f n u1.1 0) λu2=>
    some (u2.1,())
    ) (
    bIf ((hide (t8 == (9:Int)))) (
      bnd (ybK.f n t) λu3=>
      some (u3.1,())
      ) (
      bIf ((hide (t8 == (10 : Int)))) (
        bnd (ybK.f n t) λu4=>
        bnd (yb4.f n u4.1 1) λu5=>
        bnd (ycx.f n u5.1) λu6=>
        some (u6.1,())
        ) (
        bIf ((hide (t8 == (11 : Int)))) (
          bnd (ybK.f n t) λu7=>
          bnd (yb4.f n u7.1 0) λu8=>
          bnd (ycD.f n u8.1 (!A.2.2.2.2.2.2.2.1.2.2.1)) λu9=>
          bnd (ycx.f n u9.1) λu10=>
          some (u10.1,())
          ) (
          bIf ((hide (t8 == (12 : Int)))) (
            bnd (ybK.f n t) λu11=>
            bnd (yb4.f n u11.1 0) λu12=>
            bnd (ycD.f n u12.1 (hide (A.2.2.2.2.2.2.2.1.1==(0:Int)))) λu13=>
            some (u13.1,())
            ) (
            bIf ((hide (t8 == (13:Int)))) (
              bnd (ybK.f n t) λu14=>
              bnd (yb4.f n u14.1 0) λu15=>
              bnd (ycF.f n u15.1) λu16=>
              some (u16.1,())
              ) (
              bIf ((hide (t8 == (14:Int)))) (
                bnd (ycB.f n t) λu17=>
                bnd (yde.f n A.2.2.2.2.2.2.2.2.2.2.2.2.2.2.2.2.1) λu18=>
                bIf (u18.1) (
                  bnd (yde.f n A.2.2.2.2.2.2.2.2.2.2.2.2.2.2.1) λu19=>
                  bnd (yaN.f n u17.1 u19.1) λu20=>
                  J4 n (u20.1,())
                  ) (
                  bnd (yaN.f n u17.1 false) λu21=>
                  J4 n (u21.1,())
                  )
                ) (
                bIf ((hide (t8==(15:Int)))) (
                  bnd (ycB.f n t) λu22=>
                  bIf ((hide (eqS A.2.2.2.2.2.2.2.2.2.2.2.2.2.2.2.2.2.1.1 (⟨#[]⟩:ByteArray)))) (
                    bnd (yde.f n A.2.2.2.2.2.2.2.2.2.2.2.2.2.2.2.2.2.1.2.1) λu23=>
                    bnd (ycf.f n u22.1 u23.1) λu24=>
                    some (u24.1,())
                    ) (
                    bnd (ycf.f n u22.1 false) λu25=>
                    some (u25.1,())
                    )
                  ) (
                  bIf ((hide (t8==(16:Int)))) (
                    bnd (ybK.f n t) λu26=>
                    bnd (ycF.f n u26.1) λu27=>
                    some (u27.1,())
                    ) (
                    bIf ((hide (t8==(17:Int)))) (
                      bnd (yb4.f n t 1) λu28=>
                      bnd (ycO.f n u28.1) λu29=>
                      bIf ((hide (decide (A.2.2.2.2.2.2.2.2.2.2.2.2.1≥(1:Int))))) (
                        bnd (yaN.f n u29.1 (hide (decide (A.2.2.2.2.2.2.2.2.2.2.2.2.1≤(10000:Int))))) λu30=>
                        some (((u30.1.1.1,(u30.1.1.2.1,(u30.1.1.2.2.1,(u30.1.1.2.2.2.1,(u30.1.1.2.2.2.2.1,(u30.1.1.2.2.2.2.2.1,(u30.1.1.2.2.2.2.2.2.1,(u30.1.1.2.2.2.2.2.2.2.1,(u30.1.1.2.2.2.2.2.2.2.2.1,(u30.1.1.2.2.2.2.2.2.2.2.2.1,(u30.1.1.2.2.2.2.2.2.2.2.2.2.1,(u30.1.1.2.2.2.2.2.2.2.2.2.2.2.1,(0,u30.1.1.2.2.2.2.2.2.2.2.2.2.2.2.2))))))))))))),u30.1.2),())
                        ) (
                        bnd (yaN.f n u29.1 false) λu31=>
                        some (((u31.1.1.1,(u31.1.1.2.1,(u31.1.1.2.2.1,(u31.1.1.2.2.2.1,(u31.1.1.2.2.2.2.1,(u31.1.1.2.2.2.2.2.1,(u31.1.1.2.2.2.2.2.2.1,(u31.1.1.2.2.2.2.2.2.2.1,(u31.1.1.2.2.2.2.2.2.2.2.1,(u31.1.1.2.2.2.2.2.2.2.2.2.1,(u31.1.1.2.2.2.2.2.2.2.2.2.2.1,(u31.1.1.2.2.2.2.2.2.2.2.2.2.2.1,(0,u31.1.1.2.2.2.2.2.2.2.2.2.2.2.2.2))))))))))))),u31.1.2),())
                        )
                      ) (
                      bIf ((hide (t8==(18:Int)))) (
                        bnd (yb4.f n t 1) λu32=>
                        bnd (yaN.f n u32.1 (hide (decide (((A.2.2.2.2.2.2.2.2.2.2.2.2.2.1.length:Nat):Int)≤(16:Int))))) λu33=>
                        some (((u33.1.1.1,(u33.1.1.2.1,(u33.1.1.2.2.1,(u33.1.1.2.2.2.1,(u33.1.1.2.2.2.2.1,(u33.1.1.2.2.2.2.2.1,(u33.1.1.2.2.2.2.2.2.1,(u33.1.1.2.2.2.2.2.2.2.1,(u33.1.1.2.2.2.2.2.2.2.2.1,(u33.1.1.2.2.2.2.2.2.2.2.2.1,(u33.1.1.2.2.2.2.2.2.2.2.2.2.1,(u33.1.1.2.2.2.2.2.2.2.2.2.2.2.1,(u33.1.1.2.2.2.2.2.2.2.2.2.2.2.2.1,([],u33.1.1.2.2.2.2.2.2.2.2.2.2.2.2.2.2)))))))))))))),u33.1.2),())
                        ) (
                        bIf ((hide (t8==(19:Int)))) (
                          bnd (yb4.f n t 1) λu34=>
                          some (u34.1,())
                          ) (
                          bIf ((hide (t8==(20:Int)))) (
                            bnd (ybK.f n t) λu35=>
                            bnd (ybR.f n A.2.2.2.2.2.2.2.2.2.2.2.2.2.2.2.2.2.1.1) λu36=>
                            bIf (u36.1) (
                              bnd (ydz.f n A.2.2.2.2.2.2.2.2.2.2.2.2.2.2.2.2.2.1.2.1) λu37=>
                              bIf (u37.1) (
                                bnd (ycf.f n u35.1 (hide (decide (A.2.2.2.2.2.2.2.2.2.2.2.2.2.2.2.2.2.1.2.2.1≥(1:Int))))) λu38=>
                                some (u38.1,())
                                ) (
                                bnd (ycf.f n u35.1 false) λu39=>
                                some (u39.1,())
                                )
                              ) (
                              bnd (ycf.f n u35.1 false) λu40=>
                              some (u40.1,())
                              )
                            ) (
                            bnd (yaN.f n t false) λu41=>
                            some (u41.1,())
                            )
                          )
                        )
                      )
                    )
                  )
                )
              )
            )
          )
        )
      )
    ):=(yaj _).trans (by kernel_rfl)
theorem e4 (n:Nat)(t:ybo):J4 n (t,()) =
  some (((t.1.1,(t.1.2.1,(t.1.2.2.1,(t.1.2.2.2.1,(t.1.2.2.2.2.1,(t.1.2.2.2.2.2.1,(t.1.2.2.2.2.2.2.1,(t.1.2.2.2.2.2.2.2.1,(t.1.2.2.2.2.2.2.2.2.1,(t.1.2.2.2.2.2.2.2.2.2.1,(t.1.2.2.2.2.2.2.2.2.2.2.1,(t.1.2.2.2.2.2.2.2.2.2.2.2.1,(t.1.2.2.2.2.2.2.2.2.2.2.2.2.1,(t.1.2.2.2.2.2.2.2.2.2.2.2.2.2.1,((⟨#[]⟩:ByteArray),(t.1.2.2.2.2.2.2.2.2.2.2.2.2.2.2.2.1,((⟨#[]⟩:ByteArray),t.1.2.2.2.2.2.2.2.2.2.2.2.2.2.2.2.2.2))))))))))))))))),t.2),()):=(yaj _).trans (by kernel_rfl)
theorem phi (n:Nat):∀ e∈(X n).c.Φ,EntryOk Tryz.prog e:=yah (yab (ybR.ok n)) (yah (yab (ydz.ok n)) (yah (yab (yee.ok n)) (yah (yab (ydW.ok n)) (yah (yab (ydK.ok n)) (yah (yab (yaN.ok n)) (yah (yab (ybK.ok n)) (yah (yab (ycO.ok n)) (yah (yab (ycF.ok n)) (yah (yab (ycD.ok n)) (yah (yab (yb4.ok n)) (yah (yab (ycx.ok n)) (yah (yab (ycB.ok n)) (yah (yab (yde.ok n)) (yah (yab (ycf.ok n)) (yaz)))))))))))))))
theorem ok (n:Nat):FnOk Tryz.prog 167 ia io (fRun (X n) n T Tryz.f167 ia io):=yaM mixed tabIs (phi n) Tryz.func167 (by kernel_rfl) rfl
noncomputable def en (n:Nat):Entry:=yaI 167 ia io (fRun (X n) n T Tryz.f167 ia io)
end yae
end Go.Proofs.YtcpkhpboemfglaaGreatDoor

namespace Go.Proofs.YtcpkhpboemfglaaGreatDoor
open Go Go.Va Go.Proofs
namespace yaL
abbrev ia:List Ai:=[.dat yas]
abbrev io:List (Nat×Oi):=[(2,.dat .bool)]
abbrev R:Type:=DOut ia io
noncomputable def X (n:Nat):Ctx:=⟨⟨tab,[ybR.en n,ybk.en n,ybb.en n,yae.en n,yev.en n],0,[]⟩,50,bnOf 0 ia⟩
abbrev g1:List Si:=[.ref 1 1 yas,.box 1 (.d yas)]
noncomputable def T:CT:=(.s .o (.s .o (.r g1 .o)))
noncomputable def J1 (n:Nat):yao×Unit→Option R:=jR (X n) n T (yaX Tryz.f97) (endK ia io) g1 [1,1] []
noncomputable def f (n:Nat)(r:yao):Option R:=fRun (X n) n T Tryz.f97 ia io (r,())
theorem e0 (n:Nat) (r:yao):f n r =
  bIf ((hide (decide ((r.2.1.size:Int)>(64:Int))))) (
    some (false,())
    ) (
    bnd (ybk.f n r.2.1) λu1=>
    bIf ((!u1.1)) (
      some (false,())
      ) (
      bnd (ybb.f n r.1) λu2=>
      bIf ((hide (!(u2.1==(hide (eqS r.2.2.1 (⟨#[]⟩:ByteArray))))))) (
        some (false,())
        ) (
        bIf ((hide (!eqS r.2.2.1 (⟨#[]⟩:ByteArray)))) (
          bnd (ybR.f n r.2.2.1) λu3=>
          bIf ((!u3.1)) (
            some (false,())
            ) (
            J1 n (r,())
            )
          ) (
          J1 n (r,())
          )
        )
      )
    ):=(yaj _).trans (by kernel_rfl)
theorem e1 (n:Nat)(r:yao):J1 n (r,()) =
  bnd (yae.f n (r,(true,()))) λu1=>
  bIf (u1.1.2.1) (
    bnd (yev.f n u1.1.1) λu2=>
    some (u2.1,())
    ) (
    some (false,())
    ):=(yaj _).trans (by kernel_rfl)
theorem phi (n:Nat):∀ e∈(X n).c.Φ,EntryOk Tryz.prog e:=yah (yab (ybR.ok n)) (yah (yab (ybk.ok n)) (yah (yab (ybb.ok n)) (yah (yab (yae.ok n)) (yah (yab (yev.ok n)) (yaz)))))
theorem ok (n:Nat):FnOk Tryz.prog 97 ia io (fRun (X n) n T Tryz.f97 ia io):=yaM mixed tabIs (phi n) Tryz.func97 (by kernel_rfl) rfl
noncomputable def en (n:Nat):Entry:=yaI 97 ia io (fRun (X n) n T Tryz.f97 ia io)
end yaL
end Go.Proofs.YtcpkhpboemfglaaGreatDoor

namespace Go.Proofs.YtcpkhpboemfglaaGreatDoor
open Go Go.Va Go.Proofs
namespace yaV
abbrev ia:List Ai:=[.dat .str,.dat (.int .u8)]
abbrev io:List (Nat×Oi):=[(4,.dat .bool)]
abbrev R:Type:=DOut ia io
noncomputable def X (n:Nat):Ctx:=⟨⟨tab,[],0,[]⟩,17,bnOf 0 ia⟩
abbrev g1:List Si:=[.dat 0 .str,.dat 1 (.int .u8),.dat 5 (.int .i64)]
abbrev g2:List Si:=[]
noncomputable def T:CT:=(.s .o (.s (.s .o (.b (.l g1 .o))) (.r g2 .o)))
noncomputable def J1 (n:Nat)(m:Nat):ByteArray×Int×Int×Unit→Option R:=jL (X n) n T (yaX Tryz.f80) (endK ia io) g1 [1,0,1,0] [] m
noncomputable def J2 (n:Nat):Unit→Option R:=jR (X n) n T (yaX Tryz.f80) (endK ia io) g2 [1,1] []
noncomputable def f (n:Nat)(s_:ByteArray)(b:Int):Option R:=fRun (X n) n T Tryz.f80 ia io (s_,b,())
theorem e0 (n:Nat)(s_:ByteArray)(b:Int):f n s_ b =
  J1 n n (s_,b,0,()):=(yaj _).trans (by kernel_rfl)
theorem e1 (n m:Nat) (s_:ByteArray) (b:Int) (i:Int):J1 n (m+1) (s_,b,i,()) =
  bIf ((hide (decide (i<(s_.size:Int))))) (
    gIf (0≤i∧i<(s_.size:Int)) (
      bIf ((hide ((bt s_ i)==b))) (
        some (true,())
        ) (
        J1 n m (s_,b,(IntKind.i64.wrap (i+(1:Int))),())
        )
      )
    ) (
    J2 n (())
    ):=(yaj _).trans (by kernel_rfl)
theorem e2 (n:Nat):J2 n (()) =
  some (false,()):=(yaj _).trans (by kernel_rfl)
theorem phi (n:Nat):∀ e∈(X n).c.Φ,EntryOk Tryz.prog e:=yaz
theorem ok (n:Nat):FnOk Tryz.prog 80 ia io (fRun (X n) n T Tryz.f80 ia io):=yaM mixed tabIs (phi n) Tryz.func80 (by kernel_rfl) rfl
noncomputable def en (n:Nat):Entry:=yaI 80 ia io (fRun (X n) n T Tryz.f80 ia io)
end yaV
end Go.Proofs.YtcpkhpboemfglaaGreatDoor

namespace Go.Proofs.YtcpkhpboemfglaaGreatDoor
open Go Go.Va Go.Proofs
namespace yci
abbrev ia:List Ai:=[.dat yas,.dat .str]
abbrev io:List (Nat×Oi):=[(4,.dat .bool)]
abbrev R:Type:=DOut ia io
noncomputable def X (n:Nat):Ctx:=⟨⟨tab,[yaV.en n],0,[]⟩,159,bnOf 0 ia⟩
abbrev g1:List Si:=[.dat 1 .str,.ref 2 2 yas,.dat 5 .bool,.box 2 (.d yas)]
abbrev g2:List Si:=[.dat 1 .str,.ref 2 2 yas,.dat 5 .bool,.box 2 (.d yas)]
abbrev g3:List Si:=[.dat 1 .str,.ref 2 2 yas,.dat 5 .bool,.box 2 (.d yas)]
noncomputable def T:CT:=(.s .o (.s .o (.r g1 (.s .o (.r g2 (.s .o (.r g3 .o)))))))
noncomputable def J1 (n:Nat):ByteArray×Bool×yao×Unit→Option R:=jR (X n) n T (yaX Tryz.f79) (endK ia io) g1 [1,1] []
noncomputable def J2 (n:Nat):ByteArray×Bool×yao×Unit→Option R:=jR (X n) n T (yaX Tryz.f79) (endK ia io) g2 [1,1,1] []
noncomputable def J3 (n:Nat):ByteArray×Bool×yao×Unit→Option R:=jR (X n) n T (yaX Tryz.f79) (endK ia io) g3 [1,1,1,1] []
noncomputable def f (n:Nat)(t:yao)(o:ByteArray):Option R:=fRun (X n) n T Tryz.f79 ia io (t,o,())
theorem e0 (n : Nat) (t:yao) (o:ByteArray):f n t o =
  bnd (yaV.f n o 107) λu1=>
  bIf (u1.1) (
    bnd (yaV.f n o 105) λu2=>
    bIf (u2.1) (
      bnd (yaV.f n o 66) λu3=>
      bIf (u3.1) (
        bnd (yaV.f n o 116) λu4=>
        bIf (u4.1) (
          J1 n (o,true,t,())
          ) (
          J1 n (o,(hide (((t.2.2.2.2.2.2.1.length:Nat):Int)==(0:Int))),t,())
          )
        ) (
        bIf ((hide (((t.2.2.2.2.2.1.length:Nat):Int)==(0:Int)))) (
          bnd (yaV.f n o 116) λu5=>
          bIf (u5.1) (
            J1 n (o,true,t,())
            ) (
            J1 n (o,(hide (((t.2.2.2.2.2.2.1.length:Nat):Int)==(0:Int))),t,())
            )
          ) (
          J1 n (o,false,t,())
          )
        )
      ) (
      bIf ((hide (t.2.2.2.2.1==(0:Int)))) (
        bnd (yaV.f n o 66) λu6=>
        bIf (u6.1) (
          bnd (yaV.f n o 116) λu7=>
          bIf (u7.1) (
            J1 n (o,true,t,())
            ) (
            J1 n (o,(hide (((t.2.2.2.2.2.2.1.length:Nat):Int)==(0:Int))),t,())
            )
          ) (
          bIf ((hide (((t.2.2.2.2.2.1.length:Nat):Int)==(0:Int)))) (
            bnd (yaV.f n o 116) λu8=>
            bIf (u8.1) (
              J1 n (o,true,t,())
              ) (
              J1 n (o,(hide (((t.2.2.2.2.2.2.1.length:Nat):Int)==(0:Int))),t,())
              )
            ) (
            J1 n (o,false,t,())
            )
          )
        ) (
        J1 n (o,false,t,())
        )
      )
    ) (
    bIf ((hide (eqS t.2.2.2.1 (⟨#[]⟩:ByteArray)))) (
      bnd (yaV.f n o 105) λu9=>
      bIf (u9.1) (
        bnd (yaV.f n o 66) λu10=>
        bIf (u10.1) (
          bnd (yaV.f n o 116) λu11=>
          bIf (u11.1) (
            J1 n (o,true,t,())
            ) (
            J1 n (o,(hide (((t.2.2.2.2.2.2.1.length:Nat):Int)==(0:Int))),t,())
            )
          ) (
          bIf ((hide (((t.2.2.2.2.2.1.length:Nat):Int)==(0:Int)))) (
            bnd (yaV.f n o 116) λu12=>
            bIf (u12.1) (
              J1 n (o,true,t,())
              ) (
              J1 n (o,(hide (((t.2.2.2.2.2.2.1.length:Nat):Int)==(0:Int))),t,())
              )
            ) (
            J1 n (o,false,t,())
            )
          )
        ) (
        bIf ((hide (t.2.2.2.2.1==(0:Int)))) (
          bnd (yaV.f n o 66) λu13=>
          bIf (u13.1) (
            bnd (yaV.f n o 116) λu14=>
            bIf (u14.1) (
              J1 n (o,true,t,())
              ) (
              J1 n (o,(hide (((t.2.2.2.2.2.2.1.length:Nat):Int)==(0:Int))),t,())
              )
            ) (
            bIf ((hide (((t.2.2.2.2.2.1.length:Nat):Int)==(0:Int)))) (
              bnd (yaV.f n o 116) λu15=>
              bIf (u15.1) (
                J1 n (o,true,t,())
                ) (
                J1 n (o,(hide (((t.2.2.2.2.2.2.1.length:Nat):Int)==(0:Int))),t,())
                )
              ) (
              J1 n (o,false,t,())
              )
            )
          ) (
          J1 n (o,false,t,())
          )
        )
      ) (
      J1 n (o,false,t,())
      )
    ):=(yaj _).trans (by kernel_rfl)
theorem e1 (n : Nat) (o:ByteArray) (a:Bool) (A:yao):J1 n (o,a,A,()) =
  bIf (a) (
    bnd (yaV.f n o 108) λu1=>
    bIf (u1.1) (
      bnd (yaV.f n o 121) λu2=>
      bIf (u2.1) (
        bnd (yaV.f n o 100) λu3=>
        bIf (u3.1) (
          bnd (yaV.f n o 114) λu4=>
          bIf (u4.1) (
            J2 n (o,true,A,())
            ) (
            J2 n (o,(hide (((A.2.2.2.2.2.2.2.2.2.2.1.length:Nat):Int)==(0:Int))),A,())
            )
          ) (
          bIf ((hide (eqD yaC A.2.2.2.2.2.2.2.2.2.1 (0,(0,()))))) (
            bnd (yaV.f n o 114) λu5=>
            bIf (u5.1) (
              J2 n (o,true,A,())
              ) (
              J2 n (o,(hide (((A.2.2.2.2.2.2.2.2.2.2.1.length:Nat):Int)==(0:Int))),A,())
              )
            ) (
            J2 n (o,false,A,())
            )
          )
        ) (
        bIf ((!A.2.2.2.2.2.2.2.2.1)) (
          bnd (yaV.f n o 100) λu6=>
          bIf (u6.1) (
            bnd (yaV.f n o 114) λu7=>
            bIf (u7.1) (
              J2 n (o,true,A,())
              ) (
              J2 n (o,(hide (((A.2.2.2.2.2.2.2.2.2.2.1.length:Nat):Int)==(0:Int))),A,())
              )
            ) (
            bIf ((hide (eqD yaC A.2.2.2.2.2.2.2.2.2.1 (0,(0,()))))) (
              bnd (yaV.f n o 114) λu8=>
              bIf (u8.1) (
                J2 n (o,true,A,())
                ) (
                J2 n (o,(hide (((A.2.2.2.2.2.2.2.2.2.2.1.length:Nat):Int)==(0:Int))),A,())
                )
              ) (
              J2 n (o,false,A,())
              )
            )
          ) (
          J2 n (o,false,A,())
          )
        )
      ) (
      bIf ((hide (eqD yaT A.2.2.2.2.2.2.2.1 (0,(0,(false,())))))) (
        bnd (yaV.f n o 121) λu9=>
        bIf (u9.1) (
          bnd (yaV.f n o 100) λu10=>
          bIf (u10.1) (
            bnd (yaV.f n o 114) λu11=>
            bIf (u11.1) (
              J2 n (o,true,A,())
              ) (
              J2 n (o,(hide (((A.2.2.2.2.2.2.2.2.2.2.1.length:Nat):Int)==(0:Int))),A,())
              )
            ) (
            bIf ((hide (eqD yaC A.2.2.2.2.2.2.2.2.2.1 (0,(0,()))))) (
              bnd (yaV.f n o 114) λu12=>
              bIf (u12.1) (
                J2 n (o,true,A,())
                ) (
                J2 n (o,(hide (((A.2.2.2.2.2.2.2.2.2.2.1.length:Nat):Int)==(0:Int))),A,())
                )
              ) (
              J2 n (o,false,A,())
              )
            )
          ) (
          bIf ((!A.2.2.2.2.2.2.2.2.1)) (
            bnd (yaV.f n o 100) λu13=>
            bIf (u13.1) (
              bnd (yaV.f n o 114) λu14=>
              bIf (u14.1) (
                J2 n (o,true,A,())
                ) (
                J2 n (o,(hide (((A.2.2.2.2.2.2.2.2.2.2.1.length:Nat):Int)==(0:Int))),A,())
                )
              ) (
              bIf ((hide (eqD yaC A.2.2.2.2.2.2.2.2.2.1 (0,(0,()))))) (
                bnd (yaV.f n o 114) λu15=>
                bIf (u15.1) (
                  J2 n (o,true,A,())
                  ) (
                  J2 n (o,(hide (((A.2.2.2.2.2.2.2.2.2.2.1.length:Nat):Int)==(0:Int))),A,())
                  )
                ) (
                J2 n (o,false,A,())
                )
              )
            ) (
            J2 n (o,false,A,())
            )
          )
        ) (
        J2 n (o,false,A,())
        )
      )
    ) (
    J2 n (o,false,A,())
    ):=(yaj _).trans (by kernel_rfl)
theorem e2 (n : Nat) (o:ByteArray) (a:Bool) (A:yao):J2 n (o,a,A,()) =
  bIf (a) (
    bnd (yaV.f n o 103) λu1=>
    bIf (u1.1) (
      bnd (yaV.f n o 110) λu2=>
      bIf (u2.1) (
        bnd (yaV.f n o 78) λu3=>
        bIf (u3.1) (
          bnd (yaV.f n o 97) λu4=>
          bIf (u4.1) (
            J3 n (o,true,A,())
            ) (
            J3 n (o,(hide (eqS A.2.2.2.2.2.2.2.2.2.2.2.2.2.2.1 (⟨#[]⟩:ByteArray))),A,())
            )
          ) (
          bIf ((hide (((A.2.2.2.2.2.2.2.2.2.2.2.2.2.1.length:Nat):Int)==(0:Int)))) (
            bnd (yaV.f n o 97) λu5=>
            bIf (u5.1) (
              J3 n (o,true,A,())
              ) (
              J3 n (o,(hide (eqS A.2.2.2.2.2.2.2.2.2.2.2.2.2.2.1 (⟨#[]⟩:ByteArray))),A,())
              )
            ) (
            J3 n (o,false,A,())
            )
          )
        ) (
        bIf ((hide (A.2.2.2.2.2.2.2.2.2.2.2.2.1==(0:Int)))) (
          bnd (yaV.f n o 78) λu6=>
          bIf (u6.1) (
            bnd (yaV.f n o 97) λu7=>
            bIf (u7.1) (
              J3 n (o,true,A,())
              ) (
              J3 n (o,(hide (eqS A.2.2.2.2.2.2.2.2.2.2.2.2.2.2.1 (⟨#[]⟩:ByteArray))),A,())
              )
            ) (
            bIf ((hide (((A.2.2.2.2.2.2.2.2.2.2.2.2.2.1.length:Nat):Int)==(0:Int)))) (
              bnd (yaV.f n o 97) λu8=>
              bIf (u8.1) (
                J3 n (o,true,A,())
                ) (
                J3 n (o,(hide (eqS A.2.2.2.2.2.2.2.2.2.2.2.2.2.2.1 (⟨#[]⟩:ByteArray))),A,())
                )
              ) (
              J3 n (o,false,A,())
              )
            )
          ) (
          J3 n (o,false,A,())
          )
        )
      ) (
      bIf ((hide (((A.2.2.2.2.2.2.2.2.2.2.2.1.length:Nat):Int)==(0:Int)))) (
        bnd (yaV.f n o 110) λu9=>
        bIf (u9.1) (
          bnd (yaV.f n o 78) λu10=>
          bIf (u10.1) (
            bnd (yaV.f n o 97) λu11=>
            bIf (u11.1) (
              J3 n (o,true,A,())
              ) (
              J3 n (o,(hide (eqS A.2.2.2.2.2.2.2.2.2.2.2.2.2.2.1 (⟨#[]⟩:ByteArray))),A,())
              )
            ) (
            bIf ((hide (((A.2.2.2.2.2.2.2.2.2.2.2.2.2.1.length:Nat):Int)==(0:Int)))) (
              bnd (yaV.f n o 97) λu12=>
              bIf (u12.1) (
                J3 n (o,true,A,())
                ) (
                J3 n (o,(hide (eqS A.2.2.2.2.2.2.2.2.2.2.2.2.2.2.1 (⟨#[]⟩:ByteArray))),A,())
                )
              ) (
              J3 n (o,false,A,())
              )
            )
          ) (
          bIf ((hide (A.2.2.2.2.2.2.2.2.2.2.2.2.1==(0:Int)))) (
            bnd (yaV.f n o 78) λu13=>
            bIf (u13.1) (
              bnd (yaV.f n o 97) λu14=>
              bIf (u14.1) (
                J3 n (o,true,A,())
                ) (
                J3 n (o,(hide (eqS A.2.2.2.2.2.2.2.2.2.2.2.2.2.2.1 (⟨#[]⟩:ByteArray))),A,())
                )
              ) (
              bIf ((hide (((A.2.2.2.2.2.2.2.2.2.2.2.2.2.1.length:Nat):Int)==(0:Int)))) (
                bnd (yaV.f n o 97) λu15=>
                bIf (u15.1) (
                  J3 n (o,true,A,())
                  ) (
                  J3 n (o,(hide (eqS A.2.2.2.2.2.2.2.2.2.2.2.2.2.2.1 (⟨#[]⟩:ByteArray))),A,())
                  )
                ) (
                J3 n (o,false,A,())
                )
              )
            ) (
            J3 n (o,false,A,())
            )
          )
        ) (
        J3 n (o,false,A,())
        )
      )
    ) (
    J3 n (o,false,A,())
    ):=(yaj _).trans (by kernel_rfl)
theorem e3 (n : Nat) (o:ByteArray) (a:Bool) (A:yao):J3 n (o,a,A,()) =
  bIf (a) (
    bnd (yaV.f n o 112) λu1=>
    bIf (u1.1) (
      bnd (yaV.f n o 109) λu2=>
      bIf (u2.1) (
        bnd (yaV.f n o 102) λu3=>
        bIf (u3.1) (
          bnd (yaV.f n o 120) λu4=>
          bIf (u4.1) (
            some (true,())
            ) (
            some ((hide (A.2.2.2.2.2.2.2.2.2.2.2.2.2.2.2.2.2.2.1==(0:Int))),())
            )
          ) (
          bIf ((hide (eqD ya1 A.2.2.2.2.2.2.2.2.2.2.2.2.2.2.2.2.2.1 ((⟨#[]⟩:ByteArray),((⟨#[]⟩:ByteArray),(0,())))))) (
            bnd (yaV.f n o 120) λu5=>
            bIf (u5.1) (
              some (true,())
              ) (
              some ((hide (A.2.2.2.2.2.2.2.2.2.2.2.2.2.2.2.2.2.2.1==(0:Int))),())
              )
            ) (
            some (false,())
            )
          )
        ) (
        bIf ((hide (eqS A.2.2.2.2.2.2.2.2.2.2.2.2.2.2.2.2.1 (⟨#[]⟩:ByteArray)))) (
          bnd (yaV.f n o 102) λu6=>
          bIf (u6.1) (
            bnd (yaV.f n o 120) λu7=>
            bIf (u7.1) (
              some (true,())
              ) (
              some ((hide (A.2.2.2.2.2.2.2.2.2.2.2.2.2.2.2.2.2.2.1==(0:Int))),())
              )
            ) (
            bIf ((hide (eqD ya1 A.2.2.2.2.2.2.2.2.2.2.2.2.2.2.2.2.2.1 ((⟨#[]⟩:ByteArray),((⟨#[]⟩:ByteArray),(0,())))))) (
              bnd (yaV.f n o 120) λu8=>
              bIf (u8.1) (
                some (true,())
                ) (
                some ((hide (A.2.2.2.2.2.2.2.2.2.2.2.2.2.2.2.2.2.2.1==(0:Int))),())
                )
              ) (
              some (false,())
              )
            )
          ) (
          some (false,())
          )
        )
      ) (
      bIf ((hide (eqS A.2.2.2.2.2.2.2.2.2.2.2.2.2.2.2.1 (⟨#[]⟩:ByteArray)))) (
        bnd (yaV.f n o 109) λu9=>
        bIf (u9.1) (
          bnd (yaV.f n o 102) λu10=>
          bIf (u10.1) (
            bnd (yaV.f n o 120) λu11=>
            bIf (u11.1) (
              some (true,())
              ) (
              some ((hide (A.2.2.2.2.2.2.2.2.2.2.2.2.2.2.2.2.2.2.1==(0:Int))),())
              )
            ) (
            bIf ((hide (eqD ya1 A.2.2.2.2.2.2.2.2.2.2.2.2.2.2.2.2.2.1 ((⟨#[]⟩:ByteArray),((⟨#[]⟩:ByteArray),(0,())))))) (
              bnd (yaV.f n o 120) λu12=>
              bIf (u12.1) (
                some (true,())
                ) (
                some ((hide (A.2.2.2.2.2.2.2.2.2.2.2.2.2.2.2.2.2.2.1==(0:Int))),())
                )
              ) (
              some (false,())
              )
            )
          ) (
          bIf ((hide (eqS A.2.2.2.2.2.2.2.2.2.2.2.2.2.2.2.2.1 (⟨#[]⟩:ByteArray)))) (
            bnd (yaV.f n o 102) λu13=>
            bIf (u13.1) (
              bnd (yaV.f n o 120) λu14=>
              bIf (u14.1) (
                some (true,())
                ) (
                some ((hide (A.2.2.2.2.2.2.2.2.2.2.2.2.2.2.2.2.2.2.1==(0:Int))),())
                )
              ) (
              bIf ((hide (eqD ya1 A.2.2.2.2.2.2.2.2.2.2.2.2.2.2.2.2.2.1 ((⟨#[]⟩:ByteArray),((⟨#[]⟩:ByteArray),(0,())))))) (
                bnd (yaV.f n o 120) λu15=>
                bIf (u15.1) (
                  some (true,())
                  ) (
                  some ((hide (A.2.2.2.2.2.2.2.2.2.2.2.2.2.2.2.2.2.2.1==(0:Int))),())
                  )
                ) (
                some (false,())
                )
              )
            ) (
            some (false,())
            )
          )
        ) (
        some (false,())
        )
      )
    ) (
    some (false,())
    ):=(yaj _).trans (by kernel_rfl)
theorem phi (n:Nat):∀ e∈(X n).c.Φ,EntryOk Tryz.prog e:=yah (yab (yaV.ok n)) (yaz)
theorem ok (n:Nat):FnOk Tryz.prog 79 ia io (fRun (X n) n T Tryz.f79 ia io):=yaM mixed tabIs (phi n) Tryz.func79 (by kernel_rfl) rfl
noncomputable def en (n:Nat):Entry:=yaI 79 ia io (fRun (X n) n T Tryz.f79 ia io)
end yci
end Go.Proofs.YtcpkhpboemfglaaGreatDoor

namespace Go.Proofs.YtcpkhpboemfglaaGreatDoor
open Go Go.Va Go.Proofs
namespace yd2
abbrev ia:List Ai:=[.dat (.int .i64)]
abbrev io:List (Nat×Oi):=[(2,.dat .str)]
abbrev R:Type:=DOut ia io
noncomputable def X (n:Nat):Ctx:=⟨⟨tab,[],0,[]⟩,40,bnOf 0 ia⟩
abbrev g1:List Si:=[.dat 3 (.int .i64),.dat 4 .bool]
abbrev g2:List Si:=[.dat 3 (.int .i64),.dat 13 .bool]
noncomputable def T:CT:=(.s .o (.s (.s .o (.b (.s .o (.r g1 (.c .o (.s .o (.c .o (.s .o (.c .o (.s .o (.c .o (.s .o (.r g2 .o))))))))))))) .o))
noncomputable def J1 (n:Nat):Int×Bool×Unit→Option R:=jR (X n) n T (yaX Tryz.f78) (endK ia io) g1 [1,0,1,0,1] []
noncomputable def J2 (n:Nat):Int×Bool×Unit→Option R:=jR (X n) n T (yaX Tryz.f78) (endK ia io) g2 [1,0,1,0,1,1,1,1,1,1,1,1,1] []
noncomputable def f (n:Nat)(kind:Int):Option R:=fRun (X n) n T Tryz.f78 ia io (kind,())
theorem e0 (n:Nat)(kind:Int):f n kind =
  bIf ((hide (kind==(1:Int)))) (
    J1 n (kind,true,())
    ) (
    J1 n (kind,(hide (kind==(3:Int))),())
    ):=(yaj _).trans (by kernel_rfl)
theorem e1 (n:Nat) (t3:Int) (t4:Bool):J1 n (t3,t4,()) =
  bIf (t4) (
    some ((⟨#[100]⟩:ByteArray),())
    ) (
    bIf ((hide (t3==(4:Int)))) (
      some ((⟨#[114]⟩:ByteArray),())
      ) (
      bIf ((hide (t3==(5:Int)))) (
        some ((⟨#[103]⟩:ByteArray),())
        ) (
        bIf ((hide (t3==(6:Int)))) (
          some ((⟨#[107,66,116,108]⟩:ByteArray),())
          ) (
          bIf ((hide (t3==(7:Int)))) (
            J2 n (t3,true,())
            ) (
            J2 n (t3,(hide (t3==(8:Int))),())
            )
          )
        )
      )
    ):=(yaj _).trans (by kernel_rfl)
theorem e2 (n : Nat) (t3:Int) (t13:Bool):J2 n (t3,t13,()) =
  bIf (t13) (
    some ((⟨#[107,105]⟩:ByteArray),())
    ) (
    bIf ((hide (t3 == (9:Int)))) (
      some ((⟨#[107]⟩:ByteArray),())
      ) (
      bIf ((hide (t3 == (10 : Int)))) (
        some ((⟨#[107,105,121]⟩:ByteArray),())
        ) (
        bIf ((hide (t3 == (11:Int)))) (
          some ((⟨#[107,105,108,121]⟩:ByteArray),())
          ) (
          bIf ((hide (t3 == (12:Int)))) (
            some ((⟨#[107,105,108]⟩:ByteArray),())
            ) (
            bIf ((hide (t3==(13:Int)))) (
              some ((⟨#[107,105,116]⟩:ByteArray),())
              ) (
              bIf ((hide (t3==(14:Int)))) (
                some ((⟨#[112,109,97,120]⟩:ByteArray),())
                ) (
                bIf ((hide (t3==(15:Int)))) (
                  some ((⟨#[112,102,120]⟩:ByteArray),())
                  ) (
                  bIf ((hide (t3==(16:Int)))) (
                    some ((⟨#[107,116]⟩:ByteArray),())
                    ) (
                    bIf ((hide (t3==(17:Int)))) (
                      some ((⟨#[105,110,66]⟩:ByteArray),())
                      ) (
                      bIf ((hide (t3==(18:Int)))) (
                        some ((⟨#[105,78]⟩:ByteArray),())
                        ) (
                        bIf ((hide (t3==(19:Int)))) (
                          some ((⟨#[105]⟩:ByteArray),())
                          ) (
                          bIf ((hide (t3==(20:Int)))) (
                            some ((⟨#[107,102]⟩:ByteArray),())
                            ) (
                            some ((⟨#[46]⟩:ByteArray),())
                            )
                          )
                        )
                      )
                    )
                  )
                )
              )
            )
          )
        )
      )
    ):=(yaj _).trans (by kernel_rfl)
theorem phi (n:Nat):∀ e∈(X n).c.Φ,EntryOk Tryz.prog e:=yaz
theorem ok (n:Nat):FnOk Tryz.prog 78 ia io (fRun (X n) n T Tryz.f78 ia io):=yaM mixed tabIs (phi n) Tryz.func78 (by kernel_rfl) rfl
noncomputable def en (n:Nat):Entry:=yaI 78 ia io (fRun (X n) n T Tryz.f78 ia io)
end yd2
end Go.Proofs.YtcpkhpboemfglaaGreatDoor

namespace Go.Proofs.YtcpkhpboemfglaaGreatDoor
open Go Go.Va Go.Proofs
namespace ycT
abbrev ia:List Ai:=[.dat .str]
abbrev io:List (Nat×Oi):=[(2,.dat .bool)]
abbrev R:Type:=DOut ia io
noncomputable def X (n:Nat):Ctx:=⟨⟨tab,[yaH.en n],0,[]⟩,10,bnOf 0 ia⟩
noncomputable def T:CT := .o
noncomputable def f (n:Nat)(s_:ByteArray):Option R:=fRun (X n) n T Tryz.f81 ia io (s_,())
theorem e0 (n:Nat)(s_:ByteArray):f n s_ =
  bIf ((hide (decide ((s_.size:Int)≤(200:Int))))) (
    bnd (yaH.f n s_) λu1=>
    some (u1.1,())
    ) (
    some (false,())
    ):=(yaj _).trans (by kernel_rfl)
theorem phi (n:Nat):∀ e∈(X n).c.Φ,EntryOk Tryz.prog e:=yah (yab (yaH.ok n)) (yaz)
theorem ok (n:Nat):FnOk Tryz.prog 81 ia io (fRun (X n) n T Tryz.f81 ia io):=yaM mixed tabIs (phi n) Tryz.func81 (by kernel_rfl) rfl
noncomputable def en (n:Nat):Entry:=yaI 81 ia io (fRun (X n) n T Tryz.f81 ia io)
end ycT
end Go.Proofs.YtcpkhpboemfglaaGreatDoor

namespace Go.Proofs.YtcpkhpboemfglaaGreatDoor
open Go Go.Va Go.Proofs
namespace ybm
abbrev ia:List Ai:=[.dat yas]
abbrev io:List (Nat×Oi):=[(2,.dat .bool)]
abbrev R:Type:=DOut ia io
noncomputable def X (n:Nat):Ctx:=⟨⟨tab,[ybQ.en n,yeg.en n,ydG.en n,ybV.en n,ydV.en n,ycL.en n,yct.en n,yaH.en n,yd2.en n,yci.en n,yaV.en n,ycT.en n],0,[]⟩,224,bnOf 0 ia⟩
abbrev g1:List Si:=[.ref 1 1 yas,.box 1 (.d yas)]
abbrev g2:List Si:=[.ref 1 1 yas,.box 1 (.d yas)]
abbrev g3:List Si:=[.ref 1 1 yas,.dat 3 .str,.dat 4 (.int .u64),.box 1 (.d yas)]
abbrev g4:List Si:=[.ref 1 1 yas,.dat 3 .str,.dat 5 .bool,.box 1 (.d yas)]
abbrev g5:List Si:=[.ref 1 1 yas,.dat 5 .bool,.box 1 (.d yas)]
noncomputable def T:CT:=(.s .o (.s .o (.r g1 (.s .o (.r g2 (.s .o (.s .o (.s .o (.s .o (.r g3 (.s .o (.r g4 (.s .o (.r g5 .o))))))))))))))
noncomputable def J1 (n:Nat):yao×Unit→Option R:=jR (X n) n T (yaX Tryz.f26) (endK ia io) g1 [1,1] []
noncomputable def J2 (n:Nat):yao×Unit→Option R:=jR (X n) n T (yaX Tryz.f26) (endK ia io) g2 [1,1,1] []
noncomputable def J3 (n:Nat):ByteArray×Int×yao×Unit→Option R:=jR (X n) n T (yaX Tryz.f26) (endK ia io) g3 [1,1,1,1,1,1,1] []
noncomputable def J4 (n:Nat):ByteArray×Bool×yao×Unit→Option R:=jR (X n) n T (yaX Tryz.f26) (endK ia io) g4 [1,1,1,1,1,1,1,1] []
noncomputable def J5 (n:Nat):Bool×yao×Unit→Option R:=jR (X n) n T (yaX Tryz.f26) (endK ia io) g5 [1,1,1,1,1,1,1,1,1] []
noncomputable def f (n:Nat)(t:yao):Option R:=fRun (X n) n T Tryz.f26 ia io (t,())
theorem e0 (n:Nat) (t:yao):f n t =
  bIf ((hide (decide (t.1<(1:Int))))) (
    some (false,())
    ) (
    bIf ((hide (decide (t.1>(22:Int))))) (
      some (false,())
      ) (
      bIf ((hide (decide ((t.2.1.size:Int)>(64:Int))))) (
        some (false,())
        ) (
        bnd (yaH.f n t.2.1) λu1=>
        bIf ((!u1.1)) (
          some (false,())
          ) (
          J1 n (t,())
          )
        )
      )
    ):=(yaj _).trans (by kernel_rfl)
theorem e1 (n:Nat) (o:yao):J1 n (o,()) =
  bIf ((hide (decide (o.1≥(21:Int))))) (
    bIf ((hide (!eqS o.2.2.1 (⟨#[]⟩:ByteArray)))) (
      some (false,())
      ) (
      bIf ((hide (decide (o.1<(21:Int))))) (
        bnd (ybQ.f n o.2.2.1) λu1=>
        bIf ((!u1.1)) (
          some (false,())
          ) (
          J2 n (o,())
          )
        ) (
        J2 n (o,())
        )
      )
    ) (
    bIf ((hide (decide (o.1<(21:Int))))) (
      bnd (ybQ.f n o.2.2.1) λu2=>
      bIf ((!u2.1)) (
        some (false,())
        ) (
        J2 n (o,())
        )
      ) (
      J2 n (o,())
      )
    ):=(yaj _).trans (by kernel_rfl)
theorem e2 (n:Nat) (o:yao):J2 n (o,()) =
  bnd (yd2.f n o.1) λu1=>
  bnd (yci.f n o u1.1) λu2=>
  bIf ((!u2.1)) (
    some (false,())
    ) (
    bIf ((hide (o.1==(10:Int)))) (
      J3 n (u1.1,1,o,())
      ) (
      bIf ((hide (o.1==(17:Int)))) (
        J3 n (u1.1,1,o,())
        ) (
        bIf ((hide (o.1==(18:Int)))) (
          J3 n (u1.1,1,o,())
          ) (
          bIf ((hide (o.1==(19:Int)))) (
            J3 n (u1.1,1,o,())
            ) (
            J3 n (u1.1,0,o,())
            )
          )
        )
      )
    ):=(yaj _).trans (by kernel_rfl)
theorem e3 (n : Nat) (r:ByteArray) (r':Int) (o:yao):J3 n (r,r',o,()) =
  bnd (yaV.f n r 107) λu1=>
  bIf ((!u1.1)) (
    bIf ((hide (decide (o.2.2.2.2.1≥r')))) (
      bIf ((hide (decide (((o.2.2.2.2.2.1.length:Nat):Int)≤(1024:Int))))) (
        bnd (ybV.f n o.2.2.2.2.2.2.1) λu2=>
        bIf (u2.1) (
          bnd (ydG.f n o.2.2.2.2.2.2.2.1) λu3=>
          bIf (u3.1) (
            bnd (ydV.f n o.2.2.2.2.2.2.2.2.2.1) λu4=>
            bIf (u4.1) (
              bnd (ycL.f n o.2.2.2.2.2.2.2.2.2.2.1) λu5=>
              bIf (u5.1) (
                bnd (yct.f n o.2.2.2.2.2.2.2.2.2.2.2.1) λu6=>
                J4 n (r,u6.1,o,())
                ) (
                J4 n (r,false,o,())
                )
              ) (
              J4 n (r,false,o,())
              )
            ) (
            J4 n (r,false,o,())
            )
          ) (
          J4 n (r,false,o,())
          )
        ) (
        J4 n (r,false,o,())
        )
      ) (
      J4 n (r,false,o,())
      )
    ) (
    bnd (yeg.f n o.2.2.2.1) λu7=>
    bIf (u7.1) (
      bIf ((hide (decide (o.2.2.2.2.1≥r')))) (
        bIf ((hide (decide (((o.2.2.2.2.2.1.length:Nat):Int)≤(1024:Int))))) (
          bnd (ybV.f n o.2.2.2.2.2.2.1) λu8=>
          bIf (u8.1) (
            bnd (ydG.f n o.2.2.2.2.2.2.2.1) λu9=>
            bIf (u9.1) (
              bnd (ydV.f n o.2.2.2.2.2.2.2.2.2.1) λu10=>
              bIf (u10.1) (
                bnd (ycL.f n o.2.2.2.2.2.2.2.2.2.2.1) λu11=>
                bIf (u11.1) (
                  bnd (yct.f n o.2.2.2.2.2.2.2.2.2.2.2.1) λu12=>
                  J4 n (r,u12.1,o,())
                  ) (
                  J4 n (r,false,o,())
                  )
                ) (
                J4 n (r,false,o,())
                )
              ) (
              J4 n (r,false,o,())
              )
            ) (
            J4 n (r,false,o,())
            )
          ) (
          J4 n (r,false,o,())
          )
        ) (
        J4 n (r,false,o,())
        )
      ) (
      J4 n (r,false,o,())
      )
    ):=(yaj _).trans (by kernel_rfl)
theorem e4 (n : Nat) (r:ByteArray) (a:Bool) (o:yao):J4 n (r,a,o,()) =
  bIf (a) (
    bnd (yaV.f n r 110) λu1=>
    bIf ((!u1.1)) (
      bIf ((hide (decide (((o.2.2.2.2.2.2.2.2.2.2.2.2.2.1.length:Nat):Int)≤(16:Int))))) (
        bnd (ycT.f n o.2.2.2.2.2.2.2.2.2.2.2.2.2.2.1) λu2=>
        bIf (u2.1) (
          bnd (ycT.f n o.2.2.2.2.2.2.2.2.2.2.2.2.2.2.2.1) λu3=>
          bIf (u3.1) (
            bnd (ycT.f n o.2.2.2.2.2.2.2.2.2.2.2.2.2.2.2.2.1) λu4=>
            bIf (u4.1) (
              bnd (yaV.f n r 120) λu5=>
              bIf ((!u5.1)) (
                J5 n (true,o,())
                ) (
                bIf ((hide (decide (o.2.2.2.2.2.2.2.2.2.2.2.2.2.2.2.2.2.2.1≥(1:Int))))) (
                  J5 n ((hide (decide (o.2.2.2.2.2.2.2.2.2.2.2.2.2.2.2.2.2.2.1≤(100:Int)))),o,())
                  ) (
                  J5 n (false,o,())
                  )
                )
              ) (
              J5 n (false,o,())
              )
            ) (
            J5 n (false,o,())
            )
          ) (
          J5 n (false,o,())
          )
        ) (
        J5 n (false,o,())
        )
      ) (
      bIf ((hide (decide (o.2.2.2.2.2.2.2.2.2.2.2.2.1≥(1:Int))))) (
        bIf ((hide (decide (o.2.2.2.2.2.2.2.2.2.2.2.2.1≤(10000:Int))))) (
          bIf ((hide (decide (((o.2.2.2.2.2.2.2.2.2.2.2.2.2.1.length:Nat):Int)≤(16:Int))))) (
            bnd (ycT.f n o.2.2.2.2.2.2.2.2.2.2.2.2.2.2.1) λu6=>
            bIf (u6.1) (
              bnd (ycT.f n o.2.2.2.2.2.2.2.2.2.2.2.2.2.2.2.1) λu7=>
              bIf (u7.1) (
                bnd (ycT.f n o.2.2.2.2.2.2.2.2.2.2.2.2.2.2.2.2.1) λu8=>
                bIf (u8.1) (
                  bnd (yaV.f n r 120) λu9=>
                  bIf ((!u9.1)) (
                    J5 n (true,o,())
                    ) (
                    bIf ((hide (decide (o.2.2.2.2.2.2.2.2.2.2.2.2.2.2.2.2.2.2.1≥(1:Int))))) (
                      J5 n ((hide (decide (o.2.2.2.2.2.2.2.2.2.2.2.2.2.2.2.2.2.2.1≤(100:Int)))),o,())
                      ) (
                      J5 n (false,o,())
                      )
                    )
                  ) (
                  J5 n (false,o,())
                  )
                ) (
                J5 n (false,o,())
                )
              ) (
              J5 n (false,o,())
              )
            ) (
            J5 n (false,o,())
            )
          ) (
          J5 n (false,o,())
          )
        ) (
        J5 n (false,o,())
        )
      )
    ) (
    J5 n (false,o,())
    ):=(yaj _).trans (by kernel_rfl)
theorem e5 (n : Nat) (a:Bool) (o:yao):J5 n (a,o,()) =
  bIf ((hide (o.1==(11:Int)))) (
    bIf (a) (
      some ((!o.2.2.2.2.2.2.2.1.2.2.1),())
      ) (
      some (false,())
      )
    ) (
    bIf ((hide (o.1==(12:Int)))) (
      bIf (a) (
        some ((hide (o.2.2.2.2.2.2.2.1.1==(0:Int))),())
        ) (
        some (false,())
        )
      ) (
      bIf ((hide (o.1==(15:Int)))) (
        bIf (a) (
          bIf ((hide (eqS o.2.2.2.2.2.2.2.2.2.2.2.2.2.2.2.2.2.1.1 (⟨#[]⟩:ByteArray)))) (
            bnd (ycT.f n o.2.2.2.2.2.2.2.2.2.2.2.2.2.2.2.2.2.1.2.1) λu1=>
            some (u1.1,())
            ) (
            some (false,())
            )
          ) (
          some (false,())
          )
        ) (
        bIf ((hide (o.1==(20:Int)))) (
          bIf (a) (
            bnd (ybQ.f n o.2.2.2.2.2.2.2.2.2.2.2.2.2.2.2.2.2.1.1) λu2=>
            bIf (u2.1) (
              bnd (yeg.f n o.2.2.2.2.2.2.2.2.2.2.2.2.2.2.2.2.2.1.2.1) λu3=>
              bIf (u3.1) (
                some ((hide (decide (o.2.2.2.2.2.2.2.2.2.2.2.2.2.2.2.2.2.1.2.2.1≥(1:Int)))),())
                ) (
                some (false,())
                )
              ) (
              some (false,())
              )
            ) (
            some (false,())
            )
          ) (
          some (a,())
          )
        )
      )
    ):=(yaj _).trans (by kernel_rfl)
theorem phi (n:Nat):∀ e∈(X n).c.Φ,EntryOk Tryz.prog e:=yah (yab (ybQ.ok n)) (yah (yab (yeg.ok n)) (yah (yab (ydG.ok n)) (yah (yab (ybV.ok n)) (yah (yab (ydV.ok n)) (yah (yab (ycL.ok n)) (yah (yab (yct.ok n)) (yah (yab (yaH.ok n)) (yah (yab (yd2.ok n)) (yah (yab (yci.ok n)) (yah (yab (yaV.ok n)) (yah (yab (ycT.ok n)) (yaz))))))))))))
theorem ok (n:Nat):FnOk Tryz.prog 26 ia io (fRun (X n) n T Tryz.f26 ia io):=yaM mixed tabIs (phi n) Tryz.func26 (by kernel_rfl) rfl
noncomputable def en (n:Nat):Entry:=yaI 26 ia io (fRun (X n) n T Tryz.f26 ia io)
end ybm
end Go.Proofs.YtcpkhpboemfglaaGreatDoor

namespace Go.Proofs.YtcpkhpboemfglaaGreatDoor
open Go Go.Va Go.Proofs
namespace ybu
abbrev ia:List Ai:=[.dat (.slice (.int .i64)),.dat (.slice (.int .i64))]
abbrev io:List (Nat×Oi):=[(4,.dat .bool)]
abbrev R:Type:=DOut ia io
noncomputable def X (n:Nat):Ctx:=⟨⟨tab,[],0,[]⟩,26,bnOf 0 ia⟩
abbrev g1:List Si:=[.dat 0 (.slice (.int .i64)),.dat 1 (.slice (.int .i64)),.dat 12 (.int .i64),.dat 13 (.int .i64)]
abbrev g2:List Si:=[]
noncomputable def T:CT:=(.s .o (.s .o (.s (.s .o (.b (.l g1 .o))) (.r g2 .o))))
noncomputable def J1 (n:Nat)(m:Nat):(List (Int))×(List (Int))×Int×Int×Unit→Option R:=jL (X n) n T (yaX Tryz.f94) (endK ia io) g1 [1,1,0,1,0] [] m
noncomputable def J2 (n:Nat):Unit→Option R:=jR (X n) n T (yaX Tryz.f94) (endK ia io) g2 [1,1,1] []
noncomputable def f (n:Nat)(s1:List (Int))(s2:List (Int)):Option R:=fRun (X n) n T Tryz.f94 ia io (s1,s2,())
theorem e0 (n:Nat)(s1:List (Int))(s2:List (Int)):f n s1 s2 =
  bIf ((hide (((s1.length:Nat):Int) != ((s2.length:Nat):Int)))) (
    some (false,())
    ) (
    J1 n n (s1,s2,((s1.length:Nat):Int),0,())
    ):=(yaj _).trans (by kernel_rfl)
theorem e1 (n m:Nat) (s1:List (Int)) (s2:List (Int)) (t12:Int) (t13:Int):J1 n (m+1) (s1,s2,t12,t13,()) =
  bIf ((hide (decide (t13<t12)))) (
    gIf (0≤t13∧t13<((s1.length:Nat):Int)) (
      gIf (0≤t13∧t13<((s2.length:Nat):Int)) (
        bIf ((hide ((List.getD s1 t13.toNat 0) != (List.getD s2 t13.toNat 0)))) (
          some (false,())
          ) (
          J1 n m (s1,s2,t12,(IntKind.i64.wrap (t13+(1:Int))),())
          )
        )
      )
    ) (
    J2 n (())
    ):=(yaj _).trans (by kernel_rfl)
theorem e2 (n:Nat):J2 n (()) =
  some (true,()):=(yaj _).trans (by kernel_rfl)
theorem phi (n:Nat):∀ e∈(X n).c.Φ,EntryOk Tryz.prog e:=yaz
theorem ok (n:Nat):FnOk Tryz.prog 94 ia io (fRun (X n) n T Tryz.f94 ia io):=yaM mixed tabIs (phi n) Tryz.func94 (by kernel_rfl) rfl
noncomputable def en (n:Nat):Entry:=yaI 94 ia io (fRun (X n) n T Tryz.f94 ia io)
end ybu
end Go.Proofs.YtcpkhpboemfglaaGreatDoor

