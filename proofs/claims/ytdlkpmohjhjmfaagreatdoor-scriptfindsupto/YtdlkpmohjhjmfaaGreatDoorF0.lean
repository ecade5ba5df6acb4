/-
  What the functions compute, by the abstract interpreter.
-/
import Derived.Test.YtdlkpmohjhjmfaaGreatDoorVaTree
import Derived.Test.YtdlkpmohjhjmfaaGreatDoorChecked
import Derived.Lib.LaidU8T
import Derived.Lib.ItoaNum
import Derived.Test.YtdlkpmohjhjmfaaGreatDoorVaLeaf
import Derived.Shelf.Unicode.ValidAny
import Derived.Shelf.Small.Strs
import Derived.Shelf.Strings.Split
import Derived.Shelf.Strings.SlTrimAscii
import Derived.Shelf.Strconv.Itoa4
import Derived.Shelf.Strconv.ParseIntPublic10
import Derived.Shelf.Strings.OnBuilder
import Derived.Shelf.Strings.Cut
import Derived.Laws.IdiomRangeMap
import Derived.WalkKit
set_option linter.unusedVariables false
set_option linter.unusedSimpArgs false
namespace Go.Proofs.YtdlkpmohjhjmfaaGreatDoor
open Go Go.Va Go.Proofs
abbrev T_errors_errorString : Ty := (.pair .str .unit)
abbrev ycP : Ty := (.pair (.opq 0) .unit)
abbrev ycx : Type := Unit × Unit
abbrev ybr : Ty := (.pair (.slice (.int .u8)) .unit)
abbrev yaC : Type := (List (Int)) × Unit
abbrev yaL : Ty := (.pair .str T_errors_errorString)
abbrev yak : Type := ByteArray × ByteArray × Unit
abbrev ybB : Ty := (.pair ycP .unit)
abbrev yaY : Type := ycx × Unit
abbrev T_runtime_errorAddressString : Ty := (.pair .str (.pair (.int .u64) .unit))
abbrev ydj : Ty := (.pair (.int .i64) (.pair (.int .u8) .unit))
abbrev ycL : Type := Int × Int × Unit
abbrev yaz : Ty := (.pair (.int .i64) (.pair (.int .i64) .unit))
abbrev yaj : Type := Int × Int × Unit
abbrev T_strings_Builder : Ty := (.pair (.opq 0) ybr)
abbrev yaA : Ty := (.pair (.slice (.int .u8)) (.pair (.int .i64) .unit))
abbrev yal : Type := (List (Int)) × Int × Unit
abbrev yaU : Ty := (.pair .str T_runtime_errorAddressString)
abbrev yaq : Type := ByteArray × ByteArray × Int × Unit
abbrev yaK : Ty := (.pair (.int .i64) (.pair (.int .i64) (.pair .bool .unit)))
abbrev yan : Type := Int × Int × Bool × Unit
abbrev yaI : Ty := (.pair .bool (.pair .str yaL))
abbrev yag : Type := Bool × ByteArray × ByteArray × ByteArray × Unit
abbrev T_api_Part : Ty := (.pair (.int .i64) (.pair (.int .i64) (.pair (.int .u64) (.pair (.arr 32 (.int .u8)) .unit))))
abbrev D_api_Part : Type := Int × Int × Int × (List (Int)) × Unit
abbrev yaG : Ty := (.pair .str (.pair (.slice yaL) yaK))
abbrev yai : Type := ByteArray × (List (yak)) × Int × Int × Bool × Unit
abbrev yb4 : Ty := (.pair (.int .u64) (.pair .bool (.pair (.int .i64) (.pair (.int .u64) (.pair (.arr 32 (.int .u8)) (.pair (.int .i64) (.pair yaK (.pair (.slice yaL) .unit))))))))
abbrev ybs : Type := Int × Bool × Int × Int × (List (Int)) × Int × yan × (List (yak)) × Unit
abbrev yb7 : Ty := (.pair .str (.pair .bool (.pair yb4 (.pair .bool .unit))))
abbrev yci : Type := ByteArray × Bool × ybs × Bool × Unit
abbrev yav : Ty := (.pair (.int .i64) (.pair .str (.pair .str (.pair .str (.pair (.int .u64) (.pair (.slice (.int .u8)) (.pair (.slice yaL) (.pair yaK (.pair .bool (.pair yaz (.pair (.slice yaG) (.pair (.slice yaI) (.pair (.int .i64) (.pair (.slice (.int .i64)) (.pair .str (.pair .str (.pair .str (.pair yaU (.pair (.int .i64) .unit)))))))))))))))))))
abbrev yap : Type := Int × ByteArray × ByteArray × ByteArray × Int × (List (Int)) × (List (yak)) × yan × Bool × yaj × (List (yai)) × (List (yag)) × Int × (List (Int)) × ByteArray × ByteArray × ByteArray × yaq × Int × Unit
abbrev yb1 : Ty := (.pair (.int .i64) (.pair (.int .u64) (.pair (.slice (.int .u8)) (.pair yb4 (.pair (.slice yb7) (.pair .bool (.pair (.slice (.int .i64)) (.pair (.slice .str) .unit))))))))
abbrev ybG : Type := Int × Int × (List (Int)) × ybs × (List (yci)) × Bool × (List (Int)) × (List (ByteArray)) × Unit
abbrev ybd : Ty := (.pair yav (.pair .bool .unit))
abbrev ybh : Type := yap × Bool × Unit
abbrev ybe : Ty := (.pair (.int .i64) (.pair yav (.pair (.int .i64) (.pair (.int .i64) (.pair (.slice (.int .i64)) .unit)))))
abbrev yaZ : Type := Int × yap × Int × Int × (List (Int)) × Unit
abbrev yei : Ty := (.pair (.int .i64) (.pair (.int .i64) (.pair .str (.pair .str (.pair (.int .u64) (.pair yb4 (.pair yaK (.pair (.slice yaL) (.pair yaz (.pair (.slice yaG) (.pair (.slice yaI) (.pair T_api_Part .unit))))))))))))
abbrev ydY : Type := Int × Int × ByteArray × ByteArray × Int × ybs × yan × (List (yak)) × yaj × (List (yai)) × (List (yag)) × D_api_Part × Unit
noncomputable def tab : List (Nat × TE) := [(2, ⟨(.int .i64), 0⟩), (3, ⟨(.int .i64), 0⟩), (4, ⟨.bool, 0⟩), (5, ⟨(.int .u8), 0⟩), (9, ⟨.str, 0⟩), (22, ⟨(.int .u64), 0⟩), (23, ⟨(.slice (.int .u8)), 1⟩), (24, ⟨(.slice yaL), 32⟩), (25, ⟨yaK, 0⟩), (26, ⟨yaK, 0⟩), (27, ⟨yaz, 0⟩), (28, ⟨yaz, 0⟩), (29, ⟨(.slice yaG), 64⟩), (30, ⟨(.slice yaI), 56⟩), (31, ⟨(.slice (.int .i64)), 8⟩), (32, ⟨yaU, 0⟩), (33, ⟨yaU, 0⟩), (34, ⟨yav, 0⟩), (35, ⟨yav, 0⟩), (36, ⟨ybe, 0⟩), (37, ⟨ybe, 0⟩), (38, ⟨(.int .i64), 0⟩), (49, ⟨(.slice ybe), 384⟩), (52, ⟨(.opq 1), 0⟩), (53, ⟨(.arr 32 (.int .u8)), 0⟩), (54, ⟨(.arr 32 (.int .u8)), 0⟩), (55, ⟨yb4, 0⟩), (56, ⟨yb4, 0⟩), (57, ⟨(.slice yb7), 152⟩), (58, ⟨(.slice .str), 16⟩), (59, ⟨yb1, 0⟩), (60, ⟨yb1, 0⟩), (86, ⟨yb7, 0⟩), (87, ⟨yb7, 0⟩), (88, ⟨(.opq 0), 0⟩), (89, ⟨T_strings_Builder, 0⟩), (90, ⟨T_strings_Builder, 0⟩), (92, ⟨(.opq 3), 0⟩), (93, ⟨(.opq 3), 0⟩), (103, ⟨.smap, 0⟩), (106, ⟨(.slice (.int .i64)), 8⟩), (111, ⟨T_api_Part, 0⟩), (112, ⟨T_api_Part, 0⟩), (113, ⟨yei, 0⟩), (114, ⟨yei, 0⟩), (116, ⟨(.opq 0), 0⟩), (117, ⟨ycP, 0⟩), (118, ⟨ycP, 0⟩), (120, ⟨ybB, 0⟩), (121, ⟨ybB, 0⟩), (128, ⟨(.int .u64), 0⟩), (159, ⟨(.opq 1), 0⟩), (161, ⟨(.opq 1), 0⟩), (166, ⟨ybr, 0⟩), (167, ⟨ybr, 0⟩), (175, ⟨yaL, 0⟩), (176, ⟨yaL, 0⟩), (179, ⟨(.opq 0), 0⟩), (180, ⟨ybd, 0⟩), (181, ⟨ybd, 0⟩), (187, ⟨yaI, 0⟩), (188, ⟨yaI, 0⟩), (197, ⟨yaG, 0⟩), (198, ⟨yaG, 0⟩), (200, ⟨(.opq 0), 0⟩), (201, ⟨ycP, 0⟩), (202, ⟨ycP, 0⟩), (204, ⟨ybB, 0⟩), (205, ⟨ybB, 0⟩), (207, ⟨(.opq 0), 0⟩), (216, ⟨(.opq 1), 0⟩), (225, ⟨(.opq 1), 0⟩), (231, ⟨(.slice ydj), 16⟩), (243, ⟨yaA, 0⟩), (244, ⟨yaA, 0⟩), (257, ⟨(.opq 1), 0⟩), (259, ⟨(.opq 1), 0⟩), (261, ⟨ydj, 0⟩), (262, ⟨ydj, 0⟩), (281, ⟨(.slice ydj), 16⟩), (291, ⟨ydj, 0⟩), (292, ⟨ydj, 0⟩)]
noncomputable def firstCells : List Value := Lib.firstTab.map fun z => Value.int .u8 z
noncomputable def yd1 : List Value := (List.range 16).flatMap fun i => [Value.int .u8 (Lib.accLo i), Value.int .u8 (Lib.accHi i)]
noncomputable def pow10Cells : Array Value := (Lib.pow10Tab.map fun z => Value.int .u64 z).toArray
def ErrCell (o : Obj) : Prop := ∃ ev t fr, o = .cells #[ev] t fr ∧ (ev = .nilIface ∨ ∃ te pe, ev = .iface te pe)
noncomputable instance : Gl := ⟨[(2, fun cs => cs = firstCells), (3, fun cs => cs = yd1), (0, fun cs => ∃ m, cs = [.int .i64 m])], [(1, fun o => ∃ t fr, o = .cells pow10Cells t fr), (6, ErrCell), (7, ErrCell)]⟩
theorem tabIs : TabOk Tryz.prog tab := tabB_ok (by kernel_rfl)
theorem mixed : Tryz.prog.follows .mixedOrders = true := Tryz.checked.mixed
end Go.Proofs.YtdlkpmohjhjmfaaGreatDoor

namespace Go.Proofs
open Go.Shelf
def Tryz.l146_ren : Go.Shelf.Ren := ⟨fun | 146 => 25 | 221 => 53 | 268 => 99 | 138 => 100 | 143 => 101 | 195 => 159 | 197 => 160 | 218 => 161 | 219 => 105 | 260 => 221 | 217 => 162 | 225 => 163 | 224 => 164 | 267 => 165 | 266 => 222 | 314 => 223 | n => n, fun | 9 => 9 | 31 => 58 | 3 => 3 | 4 => 4 | 0 => 0 | 105 => 212 | 21 => 21 | 5 => 5 | 46 => 128 | 119 => 251 | 139 => 254 | 138 => 253 | 146 => 247 | 51 => 228 | n => n, fun | 1 => 0 | 3 => 2 | 4 => 3 | n => n⟩
theorem Tryz.l146 : Go.Proofs.Lays.n146 Tryz.prog Tryz.l146_ren := {
  mixed := by kernel_rfl
  f138 := Tryz.func100.trans (congrArg some (by kernel_rfl))
  f143 := Tryz.func101.trans (congrArg some (by kernel_rfl))
  f146 := Tryz.func25.trans (congrArg some (by kernel_rfl))
  f195 := Tryz.func159.trans (congrArg some (by kernel_rfl))
  f197 := Tryz.func160.trans (congrArg some (by kernel_rfl))
  f217 := Tryz.func162.trans (congrArg some (by kernel_rfl))
  f218 := Tryz.func161.trans (congrArg some (by kernel_rfl))
  f219 := Tryz.func105.trans (congrArg some (by kernel_rfl))
  f221 := Tryz.func53.trans (congrArg some (by kernel_rfl))
  f224 := Tryz.func164.trans (congrArg some (by kernel_rfl))
  f225 := Tryz.func163.trans (congrArg some (by kernel_rfl))
  f260 := Tryz.func221.trans (congrArg some (by kernel_rfl))
  f266 := Tryz.func222.trans (congrArg some (by kernel_rfl))
  f267 := Tryz.func165.trans (congrArg some (by kernel_rfl))
  f268 := Tryz.func99.trans (congrArg some (by kernel_rfl))
  f314 := Tryz.func223.trans (congrArg some (by kernel_rfl))
  t0 := Tryz.underlying0
  a0 := Tryz.isAgg0
  z0 := Tryz.sizeOf0
  v0 := Tryz.zeroValue0
  t3 := Tryz.underlying3
  a3 := Tryz.isAgg3
  z3 := Tryz.sizeOf3
  v3 := Tryz.zeroValue3
  t4 := Tryz.underlying4
  a4 := Tryz.isAgg4
  z4 := Tryz.sizeOf4
  v4 := Tryz.zeroValue4
  t5 := Tryz.underlying5
  a5 := Tryz.isAgg5
  z5 := Tryz.sizeOf5
  v5 := Tryz.zeroValue5
  t9 := Tryz.underlying9
  a9 := Tryz.isAgg9
  z9 := Tryz.sizeOf9
  v9 := Tryz.zeroValue9
  t21 := Tryz.underlying21
  a21 := Tryz.isAgg21
  z21 := Tryz.sizeOf21
  v21 := Tryz.zeroValue21
  t31 := Tryz.underlying58
  a31 := Tryz.isAgg58
  z31 := Tryz.sizeOf58
  v31 := Tryz.zeroValue58
  t46 := Tryz.underlying128
  a46 := Tryz.isAgg128
  z46 := Tryz.sizeOf128
  v46 := Tryz.zeroValue128
  t51 := Tryz.underlying228
  a51 := Tryz.isAgg228
  z51 := Tryz.sizeOf228
  v51 := Tryz.zeroValue228
  t105 := Tryz.underlying212
  a105 := Tryz.isAgg212
  z105 := Tryz.sizeOf212
  v105 := Tryz.zeroValue212
  t119 := Tryz.underlying251
  a119 := Tryz.isAgg251
  z119 := Tryz.sizeOf251
  t138 := Tryz.underlying253
  a138 := Tryz.isAgg253
  z138 := Tryz.sizeOf253
  v138 := Tryz.zeroValue253
  t139 := Tryz.underlying254
  a139 := Tryz.isAgg254
  z139 := Tryz.sizeOf254
  v139 := Tryz.zeroValue254
  t146 := Tryz.underlying247
  a146 := Tryz.isAgg247
  z146 := Tryz.sizeOf247
  v146 := Tryz.zeroValue247
  g1 := by kernel_rfl
  g3 := by kernel_rfl
  g4 := by kernel_rfl }
def Tryz.l160_ren : Go.Shelf.Ren := ⟨fun | 160 => 226 | 232 => 245 | 231 => 244 | 227 => 246 | 234 => 248 | 233 => 247 | 236 => 250 | 235 => 249 | 228 => 259 | 271 => 261 | 151 => 260 | 197 => 160 | 120 => 263 | 152 => 262 | 260 => 221 | 137 => 152 | 119 => 264 | 224 => 164 | 225 => 163 | 217 => 162 | 266 => 222 | n => n, fun | 9 => 9 | 4 => 4 | 3 => 3 | 5 => 5 | 117 => 275 | 116 => 274 | 0 => 0 | 124 => 278 | 21 => 21 | 105 => 212 | 46 => 128 | 119 => 251 | 139 => 254 | 138 => 253 | n => n, fun | 3 => 2 | 4 => 3 | n => n⟩
theorem Tryz.l160 : Go.Proofs.Lays.n160 Tryz.prog Tryz.l160_ren := {
  mixed := by kernel_rfl
  f119 := Tryz.func264.trans (congrArg some (by kernel_rfl))
  f120 := Tryz.func263.trans (congrArg some (by kernel_rfl))
  f137 := Tryz.func152.trans (congrArg some (by kernel_rfl))
  f151 := Tryz.func260.trans (congrArg some (by kernel_rfl))
  f152 := Tryz.func262.trans (congrArg some (by kernel_rfl))
  f160 := Tryz.func226.trans (congrArg some (by kernel_rfl))
  f197 := Tryz.func160.trans (congrArg some (by kernel_rfl))
  f217 := Tryz.func162.trans (congrArg some (by kernel_rfl))
  f224 := Tryz.func164.trans (congrArg some (by kernel_rfl))
  f225 := Tryz.func163.trans (congrArg some (by kernel_rfl))
  f227 := Tryz.func246.trans (congrArg some (by kernel_rfl))
  f228 := Tryz.func259.trans (congrArg some (by kernel_rfl))
  f231 := Tryz.func244.trans (congrArg some (by kernel_rfl))
  f232 := Tryz.func245.trans (congrArg some (by kernel_rfl))
  f233 := Tryz.func247.trans (congrArg some (by kernel_rfl))
  f234 := Tryz.func248.trans (congrArg some (by kernel_rfl))
  f235 := Tryz.func249.trans (congrArg some (by kernel_rfl))
  f236 := Tryz.func250.trans (congrArg some (by kernel_rfl))
  f260 := Tryz.func221.trans (congrArg some (by kernel_rfl))
  f266 := Tryz.func222.trans (congrArg some (by kernel_rfl))
  f271 := Tryz.func261.trans (congrArg some (by kernel_rfl))
  t0 := Tryz.underlying0
  a0 := Tryz.isAgg0
  z0 := Tryz.sizeOf0
  v0 := Tryz.zeroValue0
  t3 := Tryz.underlying3
  a3 := Tryz.isAgg3
  z3 := Tryz.sizeOf3
  v3 := Tryz.zeroValue3
  t4 := Tryz.underlying4
  a4 := Tryz.isAgg4
  z4 := Tryz.sizeOf4
  v4 := Tryz.zeroValue4
  t5 := Tryz.underlying5
  a5 := Tryz.isAgg5
  z5 := Tryz.sizeOf5
  v5 := Tryz.zeroValue5
  t9 := Tryz.underlying9
  a9 := Tryz.isAgg9
  z9 := Tryz.sizeOf9
  v9 := Tryz.zeroValue9
  t21 := Tryz.underlying21
  a21 := Tryz.isAgg21
  z21 := Tryz.sizeOf21
  v21 := Tryz.zeroValue21
  t46 := Tryz.underlying128
  a46 := Tryz.isAgg128
  z46 := Tryz.sizeOf128
  v46 := Tryz.zeroValue128
  t105 := Tryz.underlying212
  a105 := Tryz.isAgg212
  z105 := Tryz.sizeOf212
  v105 := Tryz.zeroValue212
  t116 := Tryz.underlying274
  a116 := Tryz.isAgg274
  z116 := Tryz.sizeOf274
  t117 := Tryz.underlying275
  a117 := Tryz.isAgg275
  z117 := Tryz.sizeOf275
  v117 := Tryz.zeroValue275
  t119 := Tryz.underlying251
  a119 := Tryz.isAgg251
  z119 := Tryz.sizeOf251
  t124 := Tryz.underlying278
  a124 := Tryz.isAgg278
  z124 := Tryz.sizeOf278
  v124 := Tryz.zeroValue278
  t138 := Tryz.underlying253
  a138 := Tryz.isAgg253
  z138 := Tryz.sizeOf253
  v138 := Tryz.zeroValue253
  t139 := Tryz.underlying254
  a139 := Tryz.isAgg254
  z139 := Tryz.sizeOf254
  v139 := Tryz.zeroValue254
  g3 := by kernel_rfl
  g4 := by kernel_rfl }
def Tryz.l196_ren : Go.Shelf.Ren := ⟨fun | 196 => 177 | 259 => 225 | n => n, fun | 9 => 9 | 4 => 4 | 3 => 3 | 5 => 5 | 12 => 12 | 119 => 251 | 0 => 0 | 46 => 128 | 139 => 254 | 138 => 253 | 53 => 22 | n => n, fun | 3 => 2 | 4 => 3 | n => n⟩
theorem Tryz.l196 : Go.Proofs.Lays.n196 Tryz.prog Tryz.l196_ren := {
  mixed := by kernel_rfl
  f196 := Tryz.func177.trans (congrArg some (by kernel_rfl))
  f259 := Tryz.func225.trans (congrArg some (by kernel_rfl))
  t0 := Tryz.underlying0
  a0 := Tryz.isAgg0
  z0 := Tryz.sizeOf0
  v0 := Tryz.zeroValue0
  t3 := Tryz.underlying3
  a3 := Tryz.isAgg3
  z3 := Tryz.sizeOf3
  v3 := Tryz.zeroValue3
  t4 := Tryz.underlying4
  a4 := Tryz.isAgg4
  z4 := Tryz.sizeOf4
  v4 := Tryz.zeroValue4
  t5 := Tryz.underlying5
  a5 := Tryz.isAgg5
  z5 := Tryz.sizeOf5
  v5 := Tryz.zeroValue5
  t9 := Tryz.underlying9
  a9 := Tryz.isAgg9
  z9 := Tryz.sizeOf9
  v9 := Tryz.zeroValue9
  t12 := Tryz.underlying12
  a12 := Tryz.isAgg12
  z12 := Tryz.sizeOf12
  v12 := Tryz.zeroValue12
  t46 := Tryz.underlying128
  a46 := Tryz.isAgg128
  z46 := Tryz.sizeOf128
  v46 := Tryz.zeroValue128
  t53 := Tryz.underlying22
  a53 := Tryz.isAgg22
  z53 := Tryz.sizeOf22
  v53 := Tryz.zeroValue22
  t119 := Tryz.underlying251
  a119 := Tryz.isAgg251
  z119 := Tryz.sizeOf251
  t138 := Tryz.underlying253
  a138 := Tryz.isAgg253
  z138 := Tryz.sizeOf253
  v138 := Tryz.zeroValue253
  t139 := Tryz.underlying254
  a139 := Tryz.isAgg254
  z139 := Tryz.sizeOf254
  v139 := Tryz.zeroValue254
  g3 := by kernel_rfl
  g4 := by kernel_rfl }
def Tryz.l137_ren : Go.Shelf.Ren := ⟨fun | 137 => 152 | 217 => 162 | 266 => 222 | n => n, fun | 9 => 9 | 5 => 5 | 3 => 3 | n => n, fun | n => n⟩
theorem Tryz.l137 : Go.Proofs.Lays.n137 Tryz.prog Tryz.l137_ren := {
  mixed := by kernel_rfl
  f137 := Tryz.func152.trans (congrArg some (by kernel_rfl))
  f217 := Tryz.func162.trans (congrArg some (by kernel_rfl))
  f266 := Tryz.func222.trans (congrArg some (by kernel_rfl))
  t3 := Tryz.underlying3
  a3 := Tryz.isAgg3
  z3 := Tryz.sizeOf3
  v3 := Tryz.zeroValue3
  t5 := Tryz.underlying5
  a5 := Tryz.isAgg5
  z5 := Tryz.sizeOf5
  v5 := Tryz.zeroValue5
  t9 := Tryz.underlying9
  a9 := Tryz.isAgg9
  z9 := Tryz.sizeOf9
  v9 := Tryz.zeroValue9 }
end Go.Proofs
namespace Go.Proofs.YtdlkpmohjhjmfaaGreatDoor
open Go Go.Va Go.Proofs
theorem acc_get : ∀ (i : Nat), i < 16 → yd1[2 * i]? = some (Value.int .u8 (Lib.accLo i)) ∧ yd1[2 * i + 1]? = some (Value.int .u8 (Lib.accHi i))
  | 0, _ | 1, _ | 2, _ | 3, _ | 4, _ | 5, _ | 6, _ | 7, _ | 8, _ | 9, _ | 10, _ | 11, _ | 12, _ | 13, _ | 14, _ | 15, _ => ⟨rfl, rfl⟩
  | n + 16, h => absurd h (by omega)
theorem utf8Tabs {E : Env} {w : World} (h : GlOk E w) : Lib.Utf8Tabs (Tryz.l196_ren.g 3) (Tryz.l196_ren.g 4) w := by
  obtain ⟨_, c0, e0, h0⟩ := h.1 (2, fun cs => cs = firstCells) (by simp [Gl.tab])
  obtain ⟨_, c1, e1, h1⟩ := h.1 (3, fun cs => cs = yd1) (by simp [Gl.tab])
  have e0 : c0 = firstCells := e0
  have e1 : c1 = yd1 := e1
  subst e0 e1
  have h0 := h0.2
  have h1 := h1.2
  refine ⟨fun c hc => ?_, fun i hi => ?_⟩
  · have := h0 c (by simp [firstCells, Lib.firstTab]; exact hc)
    simp [firstCells, Lib.firstTab] at this
    exact this
  · have hl : yd1.length = 32 := by kernel_rfl
    have a0 := h1 (2 * i) (by rw [hl]; omega)
    have a1 := h1 (2 * i + 1) (by rw [hl]; omega)
    obtain ⟨e0, e1⟩ := acc_get i hi
    rw [List.getElem?_eq_getElem (by rw [hl]; omega)] at e0 e1
    simp only [Option.some.injEq] at e0 e1
    simp only [Nat.zero_add] at a0 a1
    rw [e0] at a0
    rw [e1] at a1
    exact ⟨a0, a1⟩
theorem maxLen_cell {E : Env} {w : World} (h : GlOk E w) : ∃ m, w.cell? ⟨Tryz.l146_ren.g 1, 0, none⟩ = some (.int .i64 m) := by
  obtain ⟨_, c, ⟨m, e⟩, h2⟩ := h.1 (0, fun cs => ∃ m, cs = [.int .i64 m]) (by simp [Gl.tab])
  have e : c = [.int .i64 m] := e
  subst e
  have := h2.2 0 (by simp)
  exact ⟨m, this⟩
namespace ycI
abbrev ia : List Ai := [.dat .str]
abbrev io : List (Nat × Oi) := [(2, .dat .bool)]
noncomputable def f (s : ByteArray) : Option (DOut ia io) := if s.size ≤ 9223372036854775807 then some (Lib.validD s.data.toList, ()) else none
theorem ok : FnOk Tryz.prog 177 ia io (fun v => f v.1) := by
  refine leaf_ok ⟨Tryz.f177, Tryz.func177, by kernel_rfl, by kernel_rfl⟩ rfl (fun _ => rfl) (fun _ => rfl) (fun v u h E w vals hgl hc => ?_)
  obtain ⟨x, vs, rfl, h1, h3⟩ := hc
  have h3 : vs = [] := h3
  subst h3
  have h1 : x = .string v.1 := V_str.1 h1
  subst h1
  unfold f at h
  split at h
  · next hs =>
    injection h with h
    subst h
    refine (Any.utf8_ValidString Tryz.l196 v.1 w hs (utf8Tabs hgl)).mono ?_
    rintro e w' ⟨rfl, hb⟩
    exact ⟨_, rfl, ⟨hb.os, hb.tape, hb.output, hb.size, hb.block⟩, fun E => ydR.2 rfl⟩
  · exact absurd h (by simp)
noncomputable def en : Entry := yaD 177 ia io (fun v => f v.1)
end ycI
namespace ybY
abbrev ia : List Ai := [.dat .str, .dat (.int .u8)]
abbrev io : List (Nat × Oi) := [(4, .dat (.int .i64))]
noncomputable def f (s : ByteArray) (c : Int) : Option (DOut ia io) := some (Lib.indexByte s.data.toList c.toNat.toUInt8, ())
theorem ok : FnOk Tryz.prog 152 ia io (fun v => f v.1 v.2.1) := by
  refine leaf_ok ⟨Tryz.f152, Tryz.func152, by kernel_rfl, by kernel_rfl⟩ rfl (fun _ => rfl) (fun _ => rfl) (fun v u h E w vals hgl hc => ?_)
  obtain ⟨x, vs, rfl, h1, y, vs', rfl, h2, h3⟩ := hc
  have h3 : vs' = [] := h3
  subst h3
  have h1 : x = .string v.1 := V_str.1 h1
  have h2 : y = .int .u8 v.2.1 := V_int.1 h2
  subst h1 h2
  injection h with h
  subst h
  refine (Any.strings_IndexByte Tryz.l137 v.1 v.2.1 w).mono ?_
  rintro e w' ⟨rfl, rfl⟩
  exact ⟨_, rfl, .refl _, fun E => V_int.2 rfl⟩
noncomputable def en : Entry := yaD 152 ia io (fun v => f v.1 v.2.1)
end ybY
namespace yew
abbrev ia : List Ai := [.dat .str, .dat .str]
abbrev io : List (Nat × Oi) := [(4, .dat .str)]
noncomputable def f (s c : ByteArray) : Option (DOut ia io) := if s.size ≤ 9223372036854775807 ∧ c.size < 4294967281 ∧ (∀ b ∈ c.data.toList, b.toNat < 128) then some (⟨(Lib.trimS s.data.toList c.data.toList).toArray⟩, ()) else none
theorem zero116 (w : World) : (zeroValue (Tryz.l160_ren.t 116)).run Tryz.prog w = .ok (.agg (Array.replicate 256 (.bool false))) w := by
  have h : Tryz.prog.info? (Tryz.l160_ren.t 116) = some ((Tryz.prog.info? (Tryz.l160_ren.t 116)).getD default) := by kernel_rfl
  have h2 : ((Tryz.prog.info? (Tryz.l160_ren.t 116)).getD default).zero = some (.agg (Array.replicate 256 (.bool false))) := by kernel_rfl
  simp only [zeroValue, Sem.run_bind, Va.run_typeInfo h, Result.andThen_ok, h2, Sem.run_pure]
theorem ok : FnOk Tryz.prog 226 ia io (fun v => f v.1 v.2.1) := by
  refine leaf_ok ⟨Tryz.f226, Tryz.func226, by kernel_rfl, by kernel_rfl⟩ rfl (fun _ => rfl) (fun _ => rfl) (fun v u h E w vals hgl hc => ?_)
  obtain ⟨x, vs, rfl, h1, y, vs', rfl, h2, h3⟩ := hc
  have h3 : vs' = [] := h3
  subst h3
  have h1 : x = .string v.1 := V_str.1 h1
  have h2 : y = .string v.2.1 := V_str.1 h2
  subst h1 h2
  unfold f at h
  split at h
  · next hs =>
    injection h with h
    subst h
    refine (Any.strings_Trim_ascii Tryz.l160 zero116 (by kernel_rfl) v.1 v.2.1 w hs.1 hs.2.1 (fun j b hj => hs.2.2 b (List.mem_of_getElem? hj))).mono ?_
    rintro e w' ⟨rfl, hb⟩
    exact ⟨_, rfl, ⟨hb.os, hb.tape, hb.output, hb.size, hb.block⟩, fun E => V_str.2 rfl⟩
  · exact absurd h (by simp)
noncomputable def en : Entry := yaD 226 ia io (fun v => f v.1 v.2.1)
end yew
namespace ycb
abbrev ia : List Ai := [.dat .str, .dat .str]
abbrev io : List (Nat × Oi) := [(4, .val (.r 0 .str))]
noncomputable def f (s sep : ByteArray) : Option (DOut ia io) := if s.size < 4294967281 ∧ 1 ≤ sep.size then some (Lib.splitB sep 0 (Lib.countB s sep) s, ()) else none
theorem ok : FnOk Tryz.prog 25 ia io (fun v => f v.1 v.2.1) := by
  refine leaf_row_ok ⟨Tryz.f25, Tryz.func25, by kernel_rfl, by kernel_rfl⟩ rfl (fun _ => rfl) (fun v u h E w vals hgl hc => ?_)
  obtain ⟨x, vs, rfl, h1, y, vs', rfl, h2, h3⟩ := hc
  have h3 : vs' = [] := h3
  subst h3
  have h1 : x = .string v.1 := V_str.1 h1
  have h2 : y = .string v.2.1 := V_str.1 h2
  subst h1 h2
  unfold f at h
  split at h
  · next hs =>
    injection h with h
    subst h
    obtain ⟨m, hm⟩ := maxLen_cell hgl
    refine (Any.strings_Split Tryz.l146 (by kernel_rfl) v.1 v.2.1 m w hs.1 hm hs.2).mono ?_
    rintro e w' ⟨rfl, rfl⟩
    have hl := Lib.splitB_all v.2.1 hs.2 0 _ v.1 rfl
    refine ⟨_, _, by rw [hl], rfl, fun S w' => ?_⟩
    have : ∀ l : List ByteArray, RdL (Rd S w' .str) l (l.map Value.string) := by
      intro l
      induction l with
      | nil => rfl
      | cons x l ih => exact ⟨[.string x], l.map Value.string, rfl, rfl, ih⟩
    exact this _
  · exact absurd h (by simp)
noncomputable def en : Entry := yaD 25 ia io (fun v => f v.1 v.2.1)
end ycb
end Go.Proofs.YtdlkpmohjhjmfaaGreatDoor

namespace Go.Proofs
open Go.Shelf
def Tryz.l156_ren : Go.Shelf.Ren := ⟨fun | 156 => 21 | 165 => 46 | 166 => 40 | 169 => 41 | 240 => 74 | 241 => 79 | 276 => 128 | 277 => 147 | n => n, fun | 31 => 58 | 9 => 9 | 3 => 3 | 4 => 4 | 0 => 0 | 20 => 20 | 72 => 90 | 76 => 94 | 70 => 88 | 37 => 23 | 75 => 93 | 127 => 135 | 164 => 177 | 5 => 5 | 80 => 96 | n => n, fun | n => n⟩
theorem Tryz.l156 : Go.Proofs.Lays.n156 Tryz.prog Tryz.l156_ren := {
  mixed := by kernel_rfl
  f156 := Tryz.func21.trans (congrArg some (by kernel_rfl))
  f165 := Tryz.func46.trans (congrArg some (by kernel_rfl))
  f166 := Tryz.func40.trans (congrArg some (by kernel_rfl))
  f169 := Tryz.func41.trans (congrArg some (by kernel_rfl))
  f240 := Tryz.func74.trans (congrArg some (by kernel_rfl))
  f241 := Tryz.func79.trans (congrArg some (by kernel_rfl))
  f276 := Tryz.func128.trans (congrArg some (by kernel_rfl))
  f277 := Tryz.func147.trans (congrArg some (by kernel_rfl))
  t0 := Tryz.underlying0
  a0 := Tryz.isAgg0
  z0 := Tryz.sizeOf0
  v0 := Tryz.zeroValue0
  t3 := Tryz.underlying3
  a3 := Tryz.isAgg3
  z3 := Tryz.sizeOf3
  v3 := Tryz.zeroValue3
  t4 := Tryz.underlying4
  a4 := Tryz.isAgg4
  z4 := Tryz.sizeOf4
  v4 := Tryz.zeroValue4
  t9 := Tryz.underlying9
  a9 := Tryz.isAgg9
  z9 := Tryz.sizeOf9
  v9 := Tryz.zeroValue9
  t20 := Tryz.underlying20
  a20 := Tryz.isAgg20
  z20 := Tryz.sizeOf20
  v20 := Tryz.zeroValue20
  t31 := Tryz.underlying58
  a31 := Tryz.isAgg58
  z31 := Tryz.sizeOf58
  v31 := Tryz.zeroValue58
  t37 := Tryz.underlying23
  a37 := Tryz.isAgg23
  z37 := Tryz.sizeOf23
  v37 := Tryz.zeroValue23
  t70 := Tryz.underlying88
  a70 := Tryz.isAgg88
  z70 := Tryz.sizeOf88
  v70 := Tryz.zeroValue88
  t72 := Tryz.underlying90
  a72 := Tryz.isAgg90
  z72 := Tryz.sizeOf90
  v72 := Tryz.zeroValue90
  t75 := Tryz.underlying93
  a75 := Tryz.isAgg93
  z75 := Tryz.sizeOf93
  v75 := Tryz.zeroValue93
  t76 := Tryz.underlying94
  a76 := Tryz.isAgg94
  z76 := Tryz.sizeOf94
  v76 := Tryz.zeroValue94
  t127 := Tryz.underlying135
  a127 := Tryz.isAgg135
  z127 := Tryz.sizeOf135
  v127 := Tryz.zeroValue135
  t164 := Tryz.underlying177
  a164 := Tryz.isAgg177
  z164 := Tryz.sizeOf177
  v164 := Tryz.zeroValue177 }
def Tryz.l145_ren : Go.Shelf.Ren := ⟨fun | 145 => 27 | 220 => 55 | 219 => 105 | 217 => 162 | 225 => 163 | 224 => 164 | 267 => 165 | 266 => 222 | 314 => 223 | n => n, fun | 9 => 9 | 4 => 4 | 59 => 77 | 3 => 3 | 5 => 5 | 46 => 128 | 146 => 247 | 51 => 228 | n => n, fun | 1 => 0 | n => n⟩
theorem Tryz.l145 : Go.Proofs.Lays.n145 Tryz.prog Tryz.l145_ren := {
  mixed := by kernel_rfl
  f145 := Tryz.func27.trans (congrArg some (by kernel_rfl))
  f217 := Tryz.func162.trans (congrArg some (by kernel_rfl))
  f219 := Tryz.func105.trans (congrArg some (by kernel_rfl))
  f220 := Tryz.func55.trans (congrArg some (by kernel_rfl))
  f224 := Tryz.func164.trans (congrArg some (by kernel_rfl))
  f225 := Tryz.func163.trans (congrArg some (by kernel_rfl))
  f266 := Tryz.func222.trans (congrArg some (by kernel_rfl))
  f267 := Tryz.func165.trans (congrArg some (by kernel_rfl))
  f314 := Tryz.func223.trans (congrArg some (by kernel_rfl))
  t3 := Tryz.underlying3
  a3 := Tryz.isAgg3
  z3 := Tryz.sizeOf3
  v3 := Tryz.zeroValue3
  t4 := Tryz.underlying4
  a4 := Tryz.isAgg4
  z4 := Tryz.sizeOf4
  v4 := Tryz.zeroValue4
  t5 := Tryz.underlying5
  a5 := Tryz.isAgg5
  z5 := Tryz.sizeOf5
  v5 := Tryz.zeroValue5
  t9 := Tryz.underlying9
  a9 := Tryz.isAgg9
  z9 := Tryz.sizeOf9
  v9 := Tryz.zeroValue9
  t46 := Tryz.underlying128
  a46 := Tryz.isAgg128
  z46 := Tryz.sizeOf128
  v46 := Tryz.zeroValue128
  t51 := Tryz.underlying228
  a51 := Tryz.isAgg228
  z51 := Tryz.sizeOf228
  v51 := Tryz.zeroValue228
  t59 := Tryz.underlying77
  a59 := Tryz.isAgg77
  z59 := Tryz.sizeOf77
  v59 := Tryz.zeroValue77
  t146 := Tryz.underlying247
  a146 := Tryz.isAgg247
  z146 := Tryz.sizeOf247
  v146 := Tryz.zeroValue247
  g1 := by kernel_rfl }
def Tryz.lM173_ren : Go.Shelf.Ren := ⟨fun | 173 => 44 | 246 => 78 | 283 => 143 | 284 => 144 | 285 => 145 | 286 => 146 | 129 => 198 | 317 => 197 | 318 => 199 | 319 => 200 | 320 => 201 | 337 => 233 | 338 => 234 | n => n, fun | 2 => 2 | 3 => 3 | 9 => 9 | 4 => 4 | 171 => 190 | 0 => 0 | 53 => 22 | 37 => 23 | 5 => 5 | 173 => 193 | 212 => 227 | 51 => 228 | 20 => 20 | 213 => 229 | 46 => 128 | 232 => 53 | 233 => 284 | n => n, fun | 17 => 1 | 18 => 4 | 19 => 5 | n => n⟩
theorem Tryz.lM173 : Go.Proofs.LaysM.n173 Tryz.prog Tryz.lM173_ren := {
  mixed := by kernel_rfl
  f129 := Tryz.func198.trans (congrArg some (by kernel_rfl))
  f173 := Tryz.func44.trans (congrArg some (by kernel_rfl))
  f246 := Tryz.func78.trans (congrArg some (by kernel_rfl))
  f283 := Tryz.func143.trans (congrArg some (by kernel_rfl))
  f284 := Tryz.func144.trans (congrArg some (by kernel_rfl))
  f285 := Tryz.func145.trans (congrArg some (by kernel_rfl))
  f286 := Tryz.func146.trans (congrArg some (by kernel_rfl))
  f317 := Tryz.func197.trans (congrArg some (by kernel_rfl))
  f318 := Tryz.func199.trans (congrArg some (by kernel_rfl))
  f319 := Tryz.func200.trans (congrArg some (by kernel_rfl))
  f320 := Tryz.func201.trans (congrArg some (by kernel_rfl))
  f337 := Tryz.func233.trans (congrArg some (by kernel_rfl))
  f338 := Tryz.func234.trans (congrArg some (by kernel_rfl))
  t0 := Tryz.underlying0
  a0 := Tryz.isAgg0
  z0 := Tryz.sizeOf0
  v0 := Tryz.zeroValue0
  t2 := Tryz.underlying2
  a2 := Tryz.isAgg2
  z2 := Tryz.sizeOf2
  v2 := Tryz.zeroValue2
  t3 := Tryz.underlying3
  a3 := Tryz.isAgg3
  z3 := Tryz.sizeOf3
  v3 := Tryz.zeroValue3
  t4 := Tryz.underlying4
  a4 := Tryz.isAgg4
  z4 := Tryz.sizeOf4
  v4 := Tryz.zeroValue4
  t5 := Tryz.underlying5
  a5 := Tryz.isAgg5
  z5 := Tryz.sizeOf5
  v5 := Tryz.zeroValue5
  t9 := Tryz.underlying9
  a9 := Tryz.isAgg9
  z9 := Tryz.sizeOf9
  v9 := Tryz.zeroValue9
  t20 := Tryz.underlying20
  a20 := Tryz.isAgg20
  z20 := Tryz.sizeOf20
  v20 := Tryz.zeroValue20
  t37 := Tryz.underlying23
  a37 := Tryz.isAgg23
  z37 := Tryz.sizeOf23
  v37 := Tryz.zeroValue23
  t46 := Tryz.underlying128
  a46 := Tryz.isAgg128
  z46 := Tryz.sizeOf128
  v46 := Tryz.zeroValue128
  t51 := Tryz.underlying228
  a51 := Tryz.isAgg228
  z51 := Tryz.sizeOf228
  v51 := Tryz.zeroValue228
  t53 := Tryz.underlying22
  a53 := Tryz.isAgg22
  z53 := Tryz.sizeOf22
  v53 := Tryz.zeroValue22
  t171 := Tryz.underlying190
  a171 := Tryz.isAgg190
  z171 := Tryz.sizeOf190
  v171 := Tryz.zeroValue190
  t173 := Tryz.underlying193
  a173 := Tryz.isAgg193
  z173 := Tryz.sizeOf193
  v173 := Tryz.zeroValue193
  t212 := Tryz.underlying227
  a212 := Tryz.isAgg227
  z212 := Tryz.sizeOf227
  v212 := Tryz.zeroValue227
  t213 := Tryz.underlying229
  a213 := Tryz.isAgg229
  z213 := Tryz.sizeOf229
  t232 := Tryz.underlying53
  a232 := Tryz.isAgg53
  z232 := Tryz.sizeOf53
  v232 := Tryz.zeroValue53
  t233 := Tryz.underlying284
  a233 := Tryz.isAgg284
  z233 := Tryz.sizeOf284
  v233 := Tryz.zeroValue284
  g17 := by kernel_rfl
  g18 := by kernel_rfl
  g19 := by kernel_rfl
  i0 := by kernel_rfl
  i2 := by kernel_rfl
  i3 := by kernel_rfl
  i4 := by kernel_rfl
  i5 := by kernel_rfl
  i9 := by kernel_rfl
  i20 := by kernel_rfl
  i37 := by kernel_rfl
  i46 := by kernel_rfl
  i51 := by kernel_rfl
  i53 := by kernel_rfl
  i171 := by kernel_rfl
  i173 := by kernel_rfl
  i212 := by kernel_rfl
  i232 := by kernel_rfl
  i233 := by kernel_rfl
  m17 := by kernel_rfl
  m18 := by kernel_rfl
  m19 := by kernel_rfl }
def Tryz.lM171_ren : Go.Shelf.Ren := ⟨fun | 171 => 30 | 243 => 64 | 246 => 78 | 283 => 143 | 284 => 144 | 285 => 145 | 286 => 146 | 129 => 198 | 317 => 197 | 318 => 199 | 319 => 200 | 320 => 201 | 337 => 233 | 338 => 234 | n => n, fun | 3 => 3 | 9 => 9 | 2 => 2 | 4 => 4 | 171 => 190 | 0 => 0 | 53 => 22 | 37 => 23 | 5 => 5 | 173 => 193 | 212 => 227 | 51 => 228 | 20 => 20 | 213 => 229 | 46 => 128 | 232 => 53 | 233 => 284 | n => n, fun | 17 => 1 | 18 => 4 | 19 => 5 | n => n⟩
theorem Tryz.lM171 : Go.Proofs.LaysM.n171 Tryz.prog Tryz.lM171_ren := {
  mixed := by kernel_rfl
  f129 := Tryz.func198.trans (congrArg some (by kernel_rfl))
  f171 := Tryz.func30.trans (congrArg some (by kernel_rfl))
  f243 := Tryz.func64.trans (congrArg some (by kernel_rfl))
  f246 := Tryz.func78.trans (congrArg some (by kernel_rfl))
  f283 := Tryz.func143.trans (congrArg some (by kernel_rfl))
  f284 := Tryz.func144.trans (congrArg some (by kernel_rfl))
  f285 := Tryz.func145.trans (congrArg some (by kernel_rfl))
  f286 := Tryz.func146.trans (congrArg some (by kernel_rfl))
  f317 := Tryz.func197.trans (congrArg some (by kernel_rfl))
  f318 := Tryz.func199.trans (congrArg some (by kernel_rfl))
  f319 := Tryz.func200.trans (congrArg some (by kernel_rfl))
  f320 := Tryz.func201.trans (congrArg some (by kernel_rfl))
  f337 := Tryz.func233.trans (congrArg some (by kernel_rfl))
  f338 := Tryz.func234.trans (congrArg some (by kernel_rfl))
  t0 := Tryz.underlying0
  a0 := Tryz.isAgg0
  z0 := Tryz.sizeOf0
  v0 := Tryz.zeroValue0
  t2 := Tryz.underlying2
  a2 := Tryz.isAgg2
  z2 := Tryz.sizeOf2
  v2 := Tryz.zeroValue2
  t3 := Tryz.underlying3
  a3 := Tryz.isAgg3
  z3 := Tryz.sizeOf3
  v3 := Tryz.zeroValue3
  t4 := Tryz.underlying4
  a4 := Tryz.isAgg4
  z4 := Tryz.sizeOf4
  v4 := Tryz.zeroValue4
  t5 := Tryz.underlying5
  a5 := Tryz.isAgg5
  z5 := Tryz.sizeOf5
  v5 := Tryz.zeroValue5
  t9 := Tryz.underlying9
  a9 := Tryz.isAgg9
  z9 := Tryz.sizeOf9
  v9 := Tryz.zeroValue9
  t20 := Tryz.underlying20
  a20 := Tryz.isAgg20
  z20 := Tryz.sizeOf20
  v20 := Tryz.zeroValue20
  t37 := Tryz.underlying23
  a37 := Tryz.isAgg23
  z37 := Tryz.sizeOf23
  v37 := Tryz.zeroValue23
  t46 := Tryz.underlying128
  a46 := Tryz.isAgg128
  z46 := Tryz.sizeOf128
  v46 := Tryz.zeroValue128
  t51 := Tryz.underlying228
  a51 := Tryz.isAgg228
  z51 := Tryz.sizeOf228
  v51 := Tryz.zeroValue228
  t53 := Tryz.underlying22
  a53 := Tryz.isAgg22
  z53 := Tryz.sizeOf22
  v53 := Tryz.zeroValue22
  t171 := Tryz.underlying190
  a171 := Tryz.isAgg190
  z171 := Tryz.sizeOf190
  v171 := Tryz.zeroValue190
  t173 := Tryz.underlying193
  a173 := Tryz.isAgg193
  z173 := Tryz.sizeOf193
  v173 := Tryz.zeroValue193
  t212 := Tryz.underlying227
  a212 := Tryz.isAgg227
  z212 := Tryz.sizeOf227
  v212 := Tryz.zeroValue227
  t213 := Tryz.underlying229
  a213 := Tryz.isAgg229
  z213 := Tryz.sizeOf229
  t232 := Tryz.underlying53
  a232 := Tryz.isAgg53
  z232 := Tryz.sizeOf53
  v232 := Tryz.zeroValue53
  t233 := Tryz.underlying284
  a233 := Tryz.isAgg284
  z233 := Tryz.sizeOf284
  v233 := Tryz.zeroValue284
  g17 := by kernel_rfl
  g18 := by kernel_rfl
  g19 := by kernel_rfl
  i0 := by kernel_rfl
  i2 := by kernel_rfl
  i3 := by kernel_rfl
  i4 := by kernel_rfl
  i5 := by kernel_rfl
  i9 := by kernel_rfl
  i20 := by kernel_rfl
  i37 := by kernel_rfl
  i46 := by kernel_rfl
  i51 := by kernel_rfl
  i53 := by kernel_rfl
  i171 := by kernel_rfl
  i173 := by kernel_rfl
  i212 := by kernel_rfl
  i232 := by kernel_rfl
  i233 := by kernel_rfl
  m17 := by kernel_rfl
  m18 := by kernel_rfl
  m19 := by kernel_rfl }
def Tryz.lC174_ren : Go.Shelf.Ren := ⟨fun | 174 => 158 | 247 => 219 | 245 => 220 | 287 => 239 | 279 => 240 | 280 => 241 | 281 => 242 | 282 => 243 | 321 => 255 | 322 => 256 | 316 => 257 | 171 => 30 | 205 => 258 | 243 => 64 | 246 => 78 | 283 => 143 | 284 => 144 | 285 => 145 | 286 => 146 | 129 => 198 | 317 => 197 | 318 => 199 | 319 => 200 | 320 => 201 | 337 => 233 | 338 => 234 | n => n, fun | 9 => 9 | 3 => 3 | 2 => 2 | 75 => 93 | 85 => 209 | 4 => 4 | 167 => 266 | 5 => 5 | 53 => 22 | 175 => 267 | 46 => 128 | 168 => 269 | 37 => 23 | 0 => 0 | 210 => 288 | 21 => 21 | 127 => 135 | 145 => 295 | 143 => 293 | 171 => 190 | 173 => 193 | 212 => 227 | 51 => 228 | 20 => 20 | 213 => 229 | 232 => 53 | 233 => 284 | 80 => 96 | n => n, fun | 15 => 6 | 16 => 7 | 17 => 1 | 18 => 4 | 19 => 5 | n => n⟩
theorem Tryz.lC174 : Go.Proofs.LaysC.n174 Tryz.prog Tryz.lC174_ren := {
  mixed := by kernel_rfl
  f129 := Tryz.func198.trans (congrArg some (by kernel_rfl))
  f171 := Tryz.func30.trans (congrArg some (by kernel_rfl))
  f174 := Tryz.func158.trans (congrArg some (by kernel_rfl))
  f205 := Tryz.func258.trans (congrArg some (by kernel_rfl))
  f243 := Tryz.func64.trans (congrArg some (by kernel_rfl))
  f245 := Tryz.func220.trans (congrArg some (by kernel_rfl))
  f246 := Tryz.func78.trans (congrArg some (by kernel_rfl))
  f247 := Tryz.func219.trans (congrArg some (by kernel_rfl))
  f279 := Tryz.func240.trans (congrArg some (by kernel_rfl))
  f280 := Tryz.func241.trans (congrArg some (by kernel_rfl))
  f281 := Tryz.func242.trans (congrArg some (by kernel_rfl))
  f282 := Tryz.func243.trans (congrArg some (by kernel_rfl))
  f283 := Tryz.func143.trans (congrArg some (by kernel_rfl))
  f284 := Tryz.func144.trans (congrArg some (by kernel_rfl))
  f285 := Tryz.func145.trans (congrArg some (by kernel_rfl))
  f286 := Tryz.func146.trans (congrArg some (by kernel_rfl))
  f287 := Tryz.func239.trans (congrArg some (by kernel_rfl))
  f316 := Tryz.func257.trans (congrArg some (by kernel_rfl))
  f317 := Tryz.func197.trans (congrArg some (by kernel_rfl))
  f318 := Tryz.func199.trans (congrArg some (by kernel_rfl))
  f319 := Tryz.func200.trans (congrArg some (by kernel_rfl))
  f320 := Tryz.func201.trans (congrArg some (by kernel_rfl))
  f321 := Tryz.func255.trans (congrArg some (by kernel_rfl))
  f322 := Tryz.func256.trans (congrArg some (by kernel_rfl))
  f337 := Tryz.func233.trans (congrArg some (by kernel_rfl))
  f338 := Tryz.func234.trans (congrArg some (by kernel_rfl))
  t0 := Tryz.underlying0
  a0 := Tryz.isAgg0
  z0 := Tryz.sizeOf0
  v0 := Tryz.zeroValue0
  t2 := Tryz.underlying2
  a2 := Tryz.isAgg2
  z2 := Tryz.sizeOf2
  v2 := Tryz.zeroValue2
  t3 := Tryz.underlying3
  a3 := Tryz.isAgg3
  z3 := Tryz.sizeOf3
  v3 := Tryz.zeroValue3
  t4 := Tryz.underlying4
  a4 := Tryz.isAgg4
  z4 := Tryz.sizeOf4
  v4 := Tryz.zeroValue4
  t5 := Tryz.underlying5
  a5 := Tryz.isAgg5
  z5 := Tryz.sizeOf5
  v5 := Tryz.zeroValue5
  t9 := Tryz.underlying9
  a9 := Tryz.isAgg9
  z9 := Tryz.sizeOf9
  v9 := Tryz.zeroValue9
  t20 := Tryz.underlying20
  a20 := Tryz.isAgg20
  z20 := Tryz.sizeOf20
  v20 := Tryz.zeroValue20
  t21 := Tryz.underlying21
  a21 := Tryz.isAgg21
  z21 := Tryz.sizeOf21
  v21 := Tryz.zeroValue21
  t37 := Tryz.underlying23
  a37 := Tryz.isAgg23
  z37 := Tryz.sizeOf23
  v37 := Tryz.zeroValue23
  t46 := Tryz.underlying128
  a46 := Tryz.isAgg128
  z46 := Tryz.sizeOf128
  v46 := Tryz.zeroValue128
  t51 := Tryz.underlying228
  a51 := Tryz.isAgg228
  z51 := Tryz.sizeOf228
  v51 := Tryz.zeroValue228
  t53 := Tryz.underlying22
  a53 := Tryz.isAgg22
  z53 := Tryz.sizeOf22
  v53 := Tryz.zeroValue22
  t75 := Tryz.underlying93
  a75 := Tryz.isAgg93
  z75 := Tryz.sizeOf93
  v75 := Tryz.zeroValue93
  t85 := Tryz.underlying209
  a85 := Tryz.isAgg209
  z85 := Tryz.sizeOf209
  v85 := Tryz.zeroValue209
  t127 := Tryz.underlying135
  a127 := Tryz.isAgg135
  z127 := Tryz.sizeOf135
  v127 := Tryz.zeroValue135
  t143 := Tryz.underlying293
  a143 := Tryz.isAgg293
  z143 := Tryz.sizeOf293
  v143 := Tryz.zeroValue293
  t145 := Tryz.underlying295
  a145 := Tryz.isAgg295
  z145 := Tryz.sizeOf295
  v145 := Tryz.zeroValue295
  t167 := Tryz.underlying266
  a167 := Tryz.isAgg266
  z167 := Tryz.sizeOf266
  v167 := Tryz.zeroValue266
  t168 := Tryz.underlying269
  a168 := Tryz.isAgg269
  z168 := Tryz.sizeOf269
  v168 := Tryz.zeroValue269
  t171 := Tryz.underlying190
  a171 := Tryz.isAgg190
  z171 := Tryz.sizeOf190
  v171 := Tryz.zeroValue190
  t173 := Tryz.underlying193
  a173 := Tryz.isAgg193
  z173 := Tryz.sizeOf193
  v173 := Tryz.zeroValue193
  t175 := Tryz.underlying267
  a175 := Tryz.isAgg267
  z175 := Tryz.sizeOf267
  v175 := Tryz.zeroValue267
  t210 := Tryz.underlying288
  a210 := Tryz.isAgg288
  z210 := Tryz.sizeOf288
  v210 := Tryz.zeroValue288
  t212 := Tryz.underlying227
  a212 := Tryz.isAgg227
  z212 := Tryz.sizeOf227
  v212 := Tryz.zeroValue227
  t213 := Tryz.underlying229
  a213 := Tryz.isAgg229
  z213 := Tryz.sizeOf229
  t232 := Tryz.underlying53
  a232 := Tryz.isAgg53
  z232 := Tryz.sizeOf53
  v232 := Tryz.zeroValue53
  t233 := Tryz.underlying284
  a233 := Tryz.isAgg284
  z233 := Tryz.sizeOf284
  v233 := Tryz.zeroValue284
  g15 := by kernel_rfl
  g16 := by kernel_rfl
  g17 := by kernel_rfl
  g18 := by kernel_rfl
  g19 := by kernel_rfl
  t80 := Tryz.underlying96
  a80 := Tryz.isAgg96
  z80 := Tryz.sizeOf96
  v80 := Tryz.zeroValue96
  i0 := by kernel_rfl
  i2 := by kernel_rfl
  i3 := by kernel_rfl
  i4 := by kernel_rfl
  i5 := by kernel_rfl
  i9 := by kernel_rfl
  i20 := by kernel_rfl
  i21 := by kernel_rfl
  i37 := by kernel_rfl
  i46 := by kernel_rfl
  i51 := by kernel_rfl
  i53 := by kernel_rfl
  i75 := by kernel_rfl
  i80 := by kernel_rfl
  i85 := by kernel_rfl
  i127 := by kernel_rfl
  i143 := by kernel_rfl
  i145 := by kernel_rfl
  i167 := by kernel_rfl
  i168 := by kernel_rfl
  i171 := by kernel_rfl
  i173 := by kernel_rfl
  i175 := by kernel_rfl
  i210 := by kernel_rfl
  i212 := by kernel_rfl
  i232 := by kernel_rfl
  i233 := by kernel_rfl
  m15 := by kernel_rfl
  m16 := by kernel_rfl
  m17 := by kernel_rfl
  m18 := by kernel_rfl
  m19 := by kernel_rfl
  c0 := by kernel_rfl
  c2 := by kernel_rfl
  c3 := by kernel_rfl
  c4 := by kernel_rfl
  c5 := by kernel_rfl
  c9 := by kernel_rfl
  c20 := by kernel_rfl
  c21 := by kernel_rfl
  c37 := by kernel_rfl
  c46 := by kernel_rfl
  c51 := by kernel_rfl
  c53 := by kernel_rfl
  c75 := by kernel_rfl
  c80 := by kernel_rfl
  c85 := by kernel_rfl
  c127 := by kernel_rfl
  c143 := by kernel_rfl
  c145 := by kernel_rfl
  c167 := by kernel_rfl
  c168 := by kernel_rfl
  c171 := by kernel_rfl
  c173 := by kernel_rfl
  c175 := by kernel_rfl
  c210 := by kernel_rfl
  c212 := by kernel_rfl
  c213 := by kernel_rfl
  c232 := by kernel_rfl
  c233 := by kernel_rfl }
end Go.Proofs
namespace Go.Proofs.YtdlkpmohjhjmfaaGreatDoor
open Go Go.Va Go.Proofs Go.RowKit
theorem growOf (w : World) (k : Nat) (os : Array Obj) : Grow w (Sort.grow (w.drewN k) os) := ⟨rfl, rfl, rfl, by simp [Sort.grow, World.drewN], fun b hb => by
  show (w.heap ++ os)[b]? = _
  rw [Array.getElem?_append_left hb]⟩
theorem growDrew (w : World) (k : Nat) : Grow w (w.drewN k) := ⟨rfl, rfl, rfl, Nat.le_refl _, fun _ _ => rfl⟩
theorem growBelow {w w' : World} (hb : Below w.heap.size w w') : Grow w w' := ⟨hb.os, hb.tape, hb.output, hb.size, hb.block⟩
theorem pow10_tab {E : Env} {w : World} (h : GlOk E w) : Lib.TabIs Tryz.prog w "internal/strconv.uint64pow10" .u64 Lib.pow10Tab := by
  obtain ⟨_, o, h1, t, fr, rfl⟩ := h.2 (1, fun o => ∃ t fr, o = .cells pow10Cells t fr) (by simp [Gl.ex])
  unfold Lib.TabIs World.var?
  rw [show Tryz.prog.globalNamed "internal/strconv.uint64pow10" = some 1 from by kernel_rfl, Option.bind_some, h1]
  rfl
theorem err_cell {E : Env} {w : World} (h : GlOk E w) (g : Nat) (hg : g = 6 ∨ g = 7) : ∃ ev, w.cell? ⟨g, 0, none⟩ = some ev ∧ (ev = .nilIface ∨ ∃ te pe, ev = .iface te pe) := by
  have hm : (g, ErrCell) ∈ Gl.ex := by rcases hg with rfl | rfl <;> simp [Gl.ex]
  obtain ⟨_, o, h1, ev, t, fr, rfl, h2⟩ := h.2 _ hm
  exact ⟨ev, by simp [World.cell?, h1], h2⟩
def itoaB (n : Int) : ByteArray := ⟨(Lib.itoa n).toArray⟩
def joinB (l : List ByteArray) (s : ByteArray) : List UInt8 := Lib.join (l.map (·.data.toList)) s.data.toList
namespace ycU
abbrev ia : List Ai := [.dat (.int .i64), .dat (.int .i64)]
abbrev io : List (Nat × Oi) := [(4, .dat .str)]
noncomputable def f (n b : Int) : Option (DOut ia io) := if b = 10 ∧ -9223372036854775808 ≤ n ∧ n ≤ 9223372036854775807 then some (itoaB n, ()) else none
theorem ok : FnOk Tryz.prog 44 ia io (fun v => f v.1 v.2.1) := by
  refine leaf_ok ⟨Tryz.f44, Tryz.func44, by kernel_rfl, by kernel_rfl⟩ rfl (fun _ => rfl) (fun _ => rfl) (fun v u h E w vals hgl hc => ?_)
  obtain ⟨x, vs, rfl, h1, y, vs', rfl, h2, h3⟩ := hc
  have h3 : vs' = [] := h3
  subst h3
  have h1 : x = .int .i64 v.1 := V_int.1 h1
  have h2 : y = .int .i64 v.2.1 := V_int.1 h2
  subst h1 h2
  unfold f at h
  split at h
  · next hs =>
    injection h with h
    subst h
    rw [hs.1]
    refine (Any.strconv_FormatInt_10 Tryz.lM173 v.1 hs.2.1 hs.2.2 w (pow10_tab hgl)).mono ?_
    rintro e w' ⟨rfl, k, os, rfl⟩
    exact ⟨_, rfl, growOf w k os, fun E => V_str.2 rfl⟩
  · exact absurd h (by simp)
noncomputable def en : Entry := yaD 44 ia io (fun v => f v.1 v.2.1)
end ycU
namespace ycO
abbrev ia : List Ai := [.dat (.int .i64)]
abbrev io : List (Nat × Oi) := [(2, .dat .str)]
noncomputable def f (n : Int) : Option (DOut ia io) := if -9223372036854775808 ≤ n ∧ n ≤ 9223372036854775807 then some (itoaB n, ()) else none
theorem ok : FnOk Tryz.prog 30 ia io (fun v => f v.1) := by
  refine leaf_ok ⟨Tryz.f30, Tryz.func30, by kernel_rfl, by kernel_rfl⟩ rfl (fun _ => rfl) (fun _ => rfl) (fun v u h E w vals hgl hc => ?_)
  obtain ⟨x, vs, rfl, h1, h3⟩ := hc
  have h3 : vs = [] := h3
  subst h3
  have h1 : x = .int .i64 v.1 := V_int.1 h1
  subst h1
  unfold f at h
  split at h
  · next hs =>
    injection h with h
    subst h
    refine (Any.strconv_Itoa Tryz.lM171 v.1 hs.1 hs.2 w (pow10_tab hgl)).mono ?_
    rintro e w' ⟨rfl, k, os, rfl⟩
    exact ⟨_, rfl, growOf w k os, fun E => V_str.2 rfl⟩
  · exact absurd h (by simp)
noncomputable def en : Entry := yaD 30 ia io (fun v => f v.1)
end ycO
theorem rdl_str {S : Nat → Prop} {w : World} : ∀ (l : List ByteArray) (cs : List Value), RdL (Rd S w .str) l cs → cs = l.map Value.string
  | [], cs, h => h
  | x :: l, cs, h => by
    obtain ⟨c1, c2, rfl, h1, h2⟩ := h
    have h1 : c1 = [.string x] := h1
    rw [h1, rdl_str l c2 h2]; rfl
theorem extra156 : Builder.Extra Tryz.prog Tryz.l156_ren := { sizeBuilder := by kernel_rfl, liesBuilder := by kernel_rfl, t5 := by kernel_rfl, a5 := fun w => by kernel_rfl, z5 := fun w => by kernel_rfl, v5 := fun w => by kernel_rfl, infoByte := by kernel_rfl, cellsByte := by kernel_rfl, sizeByte := by kernel_rfl, neB5 := by decide }
namespace yey
abbrev ia : List Ai := [.dat (.slice .str), .dat .str]
abbrev io : List (Nat × Oi) := [(4, .dat .str)]
noncomputable def f (l : List ByteArray) (s : ByteArray) : Option (DOut ia io) := if l.length ≤ 140737488355328 ∧ (joinB l s).length ≤ 140737488355328 then some (⟨(joinB l s).toArray⟩, ()) else none
theorem ok : FnOk Tryz.prog 21 ia io (fun v => f v.1 v.2.1) := by
  refine leaf_ok ⟨Tryz.f21, Tryz.func21, by kernel_rfl, by kernel_rfl⟩ rfl (fun _ => rfl) (fun _ => rfl) (fun v u h E w vals hgl hc => ?_)
  obtain ⟨x, vs, rfl, h1, y, vs', rfl, h2, h3⟩ := hc
  have h3 : vs' = [] := h3
  subst h3
  have h1 : Rd E.S w (.slice .str) v.1 [x] := h1
  have h2 : y = .string v.2.1 := V_str.1 h2
  subst h2
  unfold f at h
  split at h
  · next hs =>
    injection h with h
    subst h
    obtain ⟨a, cap, h4, h5, h6⟩ := h1
    injection h4 with h4
    subst h4
    rcases h6 with h6 | ⟨ad, rfl, _, cells, h7, h8⟩
    · have e0 : v.1 = [] := h6
      rw [e0]
      refine (Any.strings_Join_none Tryz.l156 extra156 a cap v.2.1 w).mono ?_
      rintro e w' ⟨rfl, rfl⟩
      exact ⟨_, rfl, .refl _, fun E => V_str.2 rfl⟩
    · have e1 := rdl_str _ _ h7
      subst e1
      rcases Nat.eq_zero_or_pos v.1.length with hl | hl
      · have e0 : v.1 = [] := List.eq_nil_of_length_eq_zero hl
        rw [e0]
        refine (Any.strings_Join_none Tryz.l156 extra156 (some ad) cap v.2.1 w).mono ?_
        rintro e w' ⟨rfl, rfl⟩
        exact ⟨_, rfl, .refl _, fun E => V_str.2 rfl⟩
      · have h9 : ∀ (j : Nat) x, v.1[j]? = some x → w.cell? ⟨ad.block, ad.off + j, none⟩ = some (.string x) := by
          intro j x hj
          obtain ⟨hj2, hj3⟩ := List.getElem?_eq_some_iff.1 hj
          rw [h8.2 j (by rw [List.length_map]; exact hj2), List.getElem_map, hj3]
        have h10 : ad = ⟨ad.block, ad.off, none⟩ := by
          have := h8.1
          cases ad; dsimp only at this; rw [this]
        have h11 := cell?_lt (h9 0 v.1[0] (List.getElem?_eq_getElem hl))
        rw [h10]
        refine (Any.strings_Join Tryz.l156 extra156 ad.block ad.off cap v.1 v.2.1 w h9 h11 hs.1 h5 hs.2).mono ?_
        rintro e w' ⟨rfl, hb⟩
        exact ⟨_, rfl, growBelow hb, fun E => V_str.2 rfl⟩
  · exact absurd h (by simp)
noncomputable def en : Entry := yaD 21 ia io (fun v => f v.1 v.2.1)
end yey
theorem V_tup3 {E : Env} {w : World} {a b : ByteArray} {c : Bool} : V E w (.tup (.cons (.data .str a) (.cons (.data .str b) (.cons (.data .bool c) .done)))) (.tuple #[.string a, .string b, .bool c]) := by
  rw [V_one rfl]
  refine ⟨_, rfl, _, _, rfl, ?_, _, _, rfl, ?_, _, _, rfl, ?_, rfl⟩
  · rw [if_neg (by simp [AV.isAgg, Ty.agg])]; rfl
  · rw [if_neg (by simp [AV.isAgg, Ty.agg])]; rfl
  · rw [if_neg (by simp [AV.isAgg, Ty.agg])]; rfl
namespace ydg
abbrev ia : List Ai := [.dat .str, .dat .str]
abbrev io : List (Nat × Oi) := [(4, .dat .str), (5, .dat .str), (6, .dat .bool)]
noncomputable def f (s c : ByteArray) : Option (DOut ia io) := if s.size < 4294967281 then some (⟨(Lib.cut s.data.toList c.data.toList).1.toArray⟩, ⟨(Lib.cut s.data.toList c.data.toList).2.1.toArray⟩, (Lib.cut s.data.toList c.data.toList).2.2, ()) else none
theorem ok : FnOk Tryz.prog 27 ia io (fun v => f v.1 v.2.1) := by
  refine leaf_ok ⟨Tryz.f27, Tryz.func27, by kernel_rfl, by kernel_rfl⟩ rfl (fun _ => rfl) (fun _ => rfl) (fun v u h E w vals hgl hc => ?_)
  obtain ⟨x, vs, rfl, h1, y, vs', rfl, h2, h3⟩ := hc
  have h3 : vs' = [] := h3
  subst h3
  have h1 : x = .string v.1 := V_str.1 h1
  have h2 : y = .string v.2.1 := V_str.1 h2
  subst h1 h2
  unfold f at h
  split at h
  · next hs =>
    injection h with h
    subst h
    obtain ⟨m, hm⟩ := maxLen_cell hgl
    refine (Any.strings_Cut Tryz.l145 v.1 v.2.1 m w hs hm).mono ?_
    rintro e w' ⟨rfl, n, rfl⟩
    refine ⟨_, rfl, growDrew w n, fun E => ?_⟩
    exact V_tup3
  · exact absurd h (by simp)
noncomputable def en : Entry := yaD 27 ia io (fun v => f v.1 v.2.1)
end ydg
end Go.Proofs.YtdlkpmohjhjmfaaGreatDoor

namespace Go.Proofs.YtdlkpmohjhjmfaaGreatDoor
open Go Go.Va Go.Proofs Go.RowKit
theorem run_mk (w : World) : (Instr.makeMap 103 none).run Tryz.prog w = .ok (.map (some w.heap.size)) (w.alloc (.map #[] 0)) := by
  rfl
theorem run_ins (w : World) (es : Array MapEntry) (ck : Nat) (s : ByteArray) (v : Int) (hf : Instr.findNow .string (.string s) es.toList 0 = some none) :
    (Instr.mapUpdate 103 (.map (some w.heap.size)) (.string s) (.int .i64 v)).run Tryz.prog (w.alloc (.map es ck)) = .ok () (w.alloc (.map (es.push { key := .string s, val := .int .i64 v, born := ck }) (ck + 1))) := by
  have h1 : (w.alloc (.map es ck)).heap[w.heap.size]? = some (.map es ck) := heap_alloc_new w _
  have h2 : (getObj w.heap.size).run Tryz.prog (w.alloc (.map es ck)) = .ok (.map es ck) (w.alloc (.map es ck)) := by
    unfold getObj; simp only [Sem.run, h1]
  have h3 : ∀ b w, (Instr.checkKey b 10000 9 (.string s)).run Tryz.prog w = .ok () w := by
    intro b w
    unfold Instr.checkKey
    simp only [Sem.run_bind, Va.run_underlying Tryz.underlying9, Result.andThen_ok, Sem.run_pure]
  have h4 : ∀ w, (Instr.findKey 9 (.string s) es.toList).run Tryz.prog w = .ok none w := by
    intro w
    unfold Instr.findKey
    simp only [Sem.run_bind, Va.run_underlying Tryz.underlying9, Result.andThen_ok, hf, Sem.run_pure]
  have h5 : ∀ o, (setObj w.heap.size o).run Tryz.prog (w.alloc (.map es ck)) = .ok () (w.alloc o) := by
    intro o
    unfold setObj
    simp only [Sem.run, h1]
    congr 1
    show ({ w with heap := (w.heap.push (.map es ck)).setIfInBounds w.heap.size o } : World) = { w with heap := w.heap.push o }
    congr 1
    apply Array.toList_inj.1
    simp
  unfold Instr.mapUpdate
  simp only [Sem.run_bind, Va.run_underlying Tryz.underlying103, Result.andThen_ok, h2, h3, h4, h5]
def ydO : Array MapEntry := #[{ key := .string ⟨#[111, 112, 101, 110]⟩, val := .int .i64 1, born := 0 }, { key := .string ⟨#[115, 119, 101, 101, 112]⟩, val := .int .i64 4, born := 1 }, { key := .string ⟨#[99, 111, 108, 108, 101, 99, 116]⟩, val := .int .i64 5, born := 2 }, { key := .string ⟨#[99, 104, 101, 99, 107]⟩, val := .int .i64 6, born := 3 }]
def wordsL : List (ByteArray × Int) := [(⟨#[111, 112, 101, 110]⟩, 1), (⟨#[115, 119, 101, 101, 112]⟩, 4), (⟨#[99, 111, 108, 108, 101, 99, 116]⟩, 5), (⟨#[99, 104, 101, 99, 107]⟩, 6)]
set_option maxRecDepth 100000 in
theorem words_walk (w : World) : Calls Tryz.prog 49 #[] w fun e w' => e = .returned (.map (some w.heap.size)) ∧ w' = w.alloc (.map ydO 4) := by
  have mixed := mixed
  have hm := run_mk
  have i1 := run_ins w #[] 0 ⟨#[111, 112, 101, 110]⟩ 1 rfl
  have i2 := run_ins w #[{ key := .string ⟨#[111, 112, 101, 110]⟩, val := .int .i64 1, born := 0 }] 1 ⟨#[115, 119, 101, 101, 112]⟩ 4 (by kernel_rfl)
  have i3 := run_ins w #[{ key := .string ⟨#[111, 112, 101, 110]⟩, val := .int .i64 1, born := 0 }, { key := .string ⟨#[115, 119, 101, 101, 112]⟩, val := .int .i64 4, born := 1 }] 2 ⟨#[99, 111, 108, 108, 101, 99, 116]⟩ 5 (by kernel_rfl)
  have i4 := run_ins w #[{ key := .string ⟨#[111, 112, 101, 110]⟩, val := .int .i64 1, born := 0 }, { key := .string ⟨#[115, 119, 101, 101, 112]⟩, val := .int .i64 4, born := 1 }, { key := .string ⟨#[99, 111, 108, 108, 101, 99, 116]⟩, val := .int .i64 5, born := 2 }] 3 ⟨#[99, 104, 101, 99, 107]⟩ 6 (by kernel_rfl)
  go_enter Tryz.func49, Tryz.ntmps49
  go_wp2
  go_ret
  exact ⟨rfl, rfl⟩
namespace ydh
abbrev ia : List Ai := []
abbrev io : List (Nat × Oi) := [(0, .dat .smap)]
noncomputable def f : Option (DOut ia io) := some (wordsL, ())
theorem ok : FnOk Tryz.prog 49 ia io (fun _ => f) := by
  refine leaf_map_ok ⟨Tryz.f49, Tryz.func49, by kernel_rfl, by kernel_rfl⟩ (fun _ => rfl) (fun _ => rfl) rfl (fun v u h E w vals hgl hc => ?_)
  have hc : vals = [] := hc
  subst hc
  injection h with h
  subst h
  refine (words_walk w).mono ?_
  rintro e w' ⟨rfl, rfl⟩
  refine ⟨_, w.heap.size, rfl, Grow.alloc w _, Nat.le_refl _, by show w.heap.size < (w.heap.push _).size; simp, fun S hS => ?_⟩
  simp only [Rd]
  exact .inr ⟨w.heap.size, ydO, 4, rfl, hS, heap_alloc_new w _, rfl⟩
noncomputable def en : Entry := yaD 49 ia io (fun _ => f)
end ydh
def wordB (k : Int) : ByteArray := if k = 1 then ⟨#[111, 112, 101, 110]⟩ else if k = 4 then ⟨#[115, 119, 101, 101, 112]⟩ else if k = 5 then ⟨#[99, 111, 108, 108, 101, 99, 116]⟩ else if k = 6 then ⟨#[99, 104, 101, 99, 107]⟩ else ⟨#[]⟩
theorem word_hit {k : Int} : ∀ x ∈ ydO.toList, x.val = .int .i64 k → x.key = .string (wordB k) := by
  intro x hx hv
  simp only [ydO, List.mem_cons, List.not_mem_nil, or_false] at hx
  rcases hx with rfl | rfl | rfl | rfl <;> (injection hv with _ hv; subst hv; rfl)
theorem word_miss {k : Int} (h : ∀ x ∈ ydO.toList, x.val ≠ .int .i64 k) : wordB k = ⟨#[]⟩ := by
  have h1 := h _ (.head _)
  have h2 := h _ (.tail _ (.head _))
  have h3 := h _ (.tail _ (.tail _ (.head _)))
  have h4 := h _ (.tail _ (.tail _ (.tail _ (.head _))))
  unfold wordB
  rw [if_neg (fun e => h1 (by rw [e])), if_neg (fun e => h2 (by rw [e])), if_neg (fun e => h3 (by rw [e])), if_neg (fun e => h4 (by rw [e]))]
theorem words_born : (ydO.toList.map (·.born)).Nodup := by decide
theorem choose_run (P : Program) (q : Question) (w : World) : ∃ j k, (choose q).run P w = .ok j (w.drewN k) := by
  unfold choose
  simp only [Sem.run]
  split
  · exact ⟨_, 0, rfl⟩
  · exact ⟨_, 1, rfl⟩
theorem next_tape {P : Program} {w w' : World} {r m since last : Nat} {seen : Array Nat} {es : Array MapEntry} {ck : Nat} {ty : TypeId} {a : Value} (h1 : w.heap[r]? = some (.mapIter (some m) since seen last)) (h2 : w.heap[m]? = some (.map es ck))
    (h : (Instr.next (.pointer (some ⟨r, 0, none⟩)) false ty).run P w = .ok a w') : w'.tape = w.tape := by
  have g1 : (getObj r).run P w = .ok (.mapIter (some m) since seen last) w := by unfold getObj; simp only [Sem.run, h1]
  have g2 : (getObj m).run P w = .ok (.map es ck) w := by unfold getObj; simp only [Sem.run, h2]
  have g3 : ∀ (k : Nat) (o : Obj), (setObj r o).run P (w.drewN k) = .ok () { w.drewN k with heap := w.heap.setIfInBounds r o } := by
    intro k o
    have : (w.drewN k).heap[r]? = some (.mapIter (some m) since seen last) := h1
    unfold setObj; simp only [Sem.run, this]; rfl
  unfold Instr.next at h
  simp only [Sem.run_bind, g1, g2, Result.andThen_ok] at h
  split at h
  · simp only [Sem.run_bind] at h
    unfold unsupported at h
    simp only [Sem.run] at h
    exact absurd h (by simp [Result.andThen])
  · rw [Sem.run_bind] at h
    generalize Question.mapNext _ = q at h
    obtain ⟨j, k, hc⟩ := choose_run P q w
    rw [hc, Result.andThen_ok] at h
    split at h
    · rw [Sem.run_bind, g3, Result.andThen_ok, Sem.run_pure] at h
      injection h with _ h
      rw [← h]; rfl
    · rw [Sem.run_pure] at h
      injection h with _ h
      rw [← h]; rfl
    · unfold stuck at h
      simp only [Sem.run] at h
      exact absurd h (by simp)
set_option maxRecDepth 1000000 in
theorem word_walk (k : Int) (w : World) : Calls Tryz.prog 45 #[.int .i64 k] w fun e w' => e = .returned (.string (wordB k)) ∧ Grow w w' := by
  have mixed := mixed
  have hsz0 : (w.alloc (.map ydO 4)).heap.size = w.heap.size + 1 := by show (w.heap.push _).size = _; simp
  have hgr : ∀ (w1 : World) (o : Obj), w1.Alike (w.alloc (.map ydO 4)) → w1.tape = w.tape → Grow w (w1.alloc o) := by
    intro w1 o hal ht
    have g1 : Grow (w.alloc (.map ydO 4)) w1 := ⟨hal.2.1, ht, hal.2.2, by rw [hal.1]; exact Nat.le_refl _, fun b _ => by rw [hal.1]⟩
    exact ((Grow.alloc w _).trans g1).trans (Grow.alloc w1 o)
  have hb0 : (w.alloc (.map ydO 4)).heap[w.heap.size]? = some (.map ydO 4) := heap_alloc_new w _
  have hold : ∀ x ∈ ydO.toList, x.born < 4 := by decide
  have hrg := run_range_map (P := Tryz.prog) (w.alloc (.map ydO 4)) 103 9 3 w.heap.size ydO 4 Tryz.underlying103 hb0
  go_enter Tryz.func45, Tryz.ntmps45
  go_wp2_with (refine (words_walk w).mono ?_; rintro e w' ⟨rfl, rfl⟩)
  go_loopw [] (fun w' => ∃ (w1 : World) (seen : Array Nat), w1.Alike (w.alloc (.map ydO 4)) ∧ w1.tape = w.tape ∧ w' = w1.alloc (.mapIter (some w.heap.size) 4 seen 4) ∧ ∀ x ∈ ydO.toList, seen.contains x.born = true → x.val ≠ .int .i64 k) (fun w' => (leftOf ydO (w'.iterSeen (w.heap.size + 1))).size)
  case atStart => exact ⟨w.alloc (.map ydO 4), #[], ⟨rfl, rfl, rfl⟩, rfl, rfl, fun x _ h => by simp at h⟩
  case round =>
    obtain ⟨w1, seen, hal, ht, rfl, hno⟩ := hrel
    have hsz : w1.heap.size = (w.alloc (.map ydO 4)).heap.size := by rw [hal.1]
    have hb1 : w1.heap[w.heap.size]? = some (.map ydO 4) := by rw [hal.1]; exact hb0
    have law := run_next_map (P := Tryz.prog) w1 0 w.heap.size 4 4 seen ydO 4 hb1 hold (Nat.le_refl _)
    have tp : ∀ a w2, (Instr.next (.pointer (some ⟨w1.heap.size, 0, none⟩)) false 0).run Tryz.prog (w1.alloc (.mapIter (some w.heap.size) 4 seen 4)) = .ok a w2 → w2.tape = w1.tape := fun a w2 h => next_tape (w := w1.alloc (.mapIter (some w.heap.size) 4 seen 4)) (heap_alloc_new w1 _) ((heap_alloc_old w1 _ (by rw [hsz, hsz0]; omega)).trans hb1) h
    rw [hsz, hsz0] at law tp
    rcases law with ⟨h0, hrun⟩ | ⟨e, he, w2, hal2, hrun⟩
    · have hnx : ∀ ty, (Instr.next (.pointer (some ⟨w.heap.size + 1, 0, none⟩)) false ty).run Tryz.prog (w1.alloc (.mapIter (some w.heap.size) 4 seen 4)) = _ := fun _ => hrun
      go_wp2
      go_ret
      rw [word_miss (fun x hx => hno x hx (all_seen ydO seen h0 x hx))]
      exact ⟨rfl, hgr w1 _ hal ht⟩
    · have hal3 : w2.Alike (w.alloc (.map ydO 4)) := ⟨hal2.1.trans hal.1, hal2.2.1.trans hal.2.1, hal2.2.2.trans hal.2.2⟩
      have ht3 : w2.tape = w.tape := (tp _ _ hrun).trans ht
      obtain ⟨v, hval, s, hkey⟩ : ∃ v, e.val = .int .i64 v ∧ ∃ s, e.key = .string s := by
        have := (mem_left he).1
        simp only [ydO, List.mem_cons, List.not_mem_nil, or_false] at this
        rcases this with rfl | rfl | rfl | rfl <;> exact ⟨_, rfl, _, rfl⟩
      rw [hval, hkey] at hrun
      have hnx : ∀ ty, (Instr.next (.pointer (some ⟨w.heap.size + 1, 0, none⟩)) false ty).run Tryz.prog (w1.alloc (.mapIter (some w.heap.size) 4 seen 4)) = _ := fun _ => hrun
      have hsz2 : w2.heap.size = (w.alloc (.map ydO 4)).heap.size := by rw [hal2.1, hal.1]
      have hb2 : w2.heap[w.heap.size]? = some (.map ydO 4) := by rw [hal2.1]; exact hb1
      have hen := run_entry_map (P := Tryz.prog) w2 w.heap.size 4 seen ydO 4 e hb2 (mem_left he).1 words_born
      rw [hsz2, hsz0, hval, hkey] at hen
      have hw := word_hit (k := v) e (mem_left he).1 hval
      rw [hkey] at hw
      injection hw with hw
      go_wp2
      · rename_i heq
        have heq : v = k := by simpa using heq
        go_ret
        rw [← heq, ← hw]
        exact ⟨rfl, hgr w2 _ hal3 ht3⟩
      · rename_i hne
        have hne : v ≠ k := by simpa using hne
        go_roundw
        case rel =>
          refine ⟨w2, seen.push e.born, hal3, ht3, rfl, fun x hx hc => ?_⟩
          rw [contains_push] at hc
          rcases Bool.or_eq_true _ _ ▸ hc with h1 | h1
          · exact hno x hx h1
          · have : x = e := born_inj words_born hx (mem_left he).1 (beq_iff_eq.1 h1)
            subst this
            rw [hval]
            exact fun h => hne (by injection h)
        case measure =>
          rw [← hsz0, ← hsz2, World.iterSeen_alloc, hsz2, ← hsz, World.iterSeen_alloc]
          exact left_shrinks ydO seen e he
namespace F_script_word
abbrev ia : List Ai := [.dat (.int .i64)]
abbrev io : List (Nat × Oi) := [(2, .dat .str)]
noncomputable def f (k : Int) : Option (DOut ia io) := some (wordB k, ())
theorem ok : FnOk Tryz.prog 45 ia io (fun v => f v.1) := by
  refine leaf_ok ⟨Tryz.f45, Tryz.func45, by kernel_rfl, by kernel_rfl⟩ rfl (fun _ => rfl) (fun _ => rfl) (fun v u h E w vals hgl hc => ?_)
  obtain ⟨x, vs, rfl, h1, h3⟩ := hc
  have h3 : vs = [] := h3
  subst h3
  have h1 : x = .int .i64 v.1 := V_int.1 h1
  subst h1
  injection h with h
  subst h
  refine (word_walk v.1 w).mono ?_
  rintro e w' ⟨rfl, hg⟩
  exact ⟨_, rfl, hg, fun E => V_str.2 rfl⟩
noncomputable def en : Entry := yaD 45 ia io (fun v => f v.1)
end F_script_word
noncomputable def numB (s : ByteArray) : Int × Bool := match Lib.parseIntB 64 s.data.toList with
  | .ok v => (v, eqS (itoaB v) s)
  | .range => (Lib.intSat 64 s.data.toList, false)
  | _ => (0, false)
theorem tab_at {w : World} {t : TypeId} {fr : Nat × Nat} (h : w.heap[1]? = some (.cells pow10Cells t fr)) : Lib.TabIs Tryz.prog w "internal/strconv.uint64pow10" .u64 Lib.pow10Tab := by
  unfold Lib.TabIs World.var?
  rw [show Tryz.prog.globalNamed "internal/strconv.uint64pow10" = some 1 from by kernel_rfl, Option.bind_some, h]
  rfl
set_option maxRecDepth 100000 in
theorem number_ok (s : ByteArray) (hs : s.size ≤ 281474976710656) (v : Int) (h : Lib.parseIntB 64 s.data.toList = .ok v) (hv : -9223372036854775808 ≤ v ∧ v ≤ 9223372036854775807) (w : World) (t : TypeId) (fr : Nat × Nat) (ht : w.heap[1]? = some (.cells pow10Cells t fr)) :
    Calls Tryz.prog 98 #[.string s] w fun e w' => e = .returned (.tuple #[.int .i64 v, .bool (eqS (itoaB v) s)]) ∧ Grow w w' := by
  have mixed := mixed
  have hp : Calls Tryz.prog 158 #[.string s, .int .i64 10, .int .i64 64] w fun e w' => e = .returned (.tuple #[.int .i64 v, .nilIface]) ∧ Grow w w' := by
    have hq := Any.strconv_ParseInt_10_at64_ok Tryz.lC174 s (by omega) v h w
    refine Calls.mono hq fun e w' hh => ?_
    obtain ⟨h1, h2⟩ := hh
    refine ⟨h1, ?_⟩
    rcases h2 with h2 | ⟨t, h2⟩
    · rw [h2]; exact .refl _
    · rw [h2]; exact growBelow (Lib.bytesWorld_below w _ _)
  have hf : ∀ w1, Grow w w1 → Calls Tryz.prog 44 #[.int .i64 v, .int .i64 10] w1 fun e w' => e = .returned (.string (itoaB v)) ∧ Grow w w' := by
    intro w1 hg
    have hl : 1 < w.heap.size := by
      rcases Nat.lt_or_ge 1 w.heap.size with hl | hl
      · exact hl
      · rw [Array.getElem?_eq_none hl] at ht; exact absurd ht (by simp)
    refine (Any.strconv_FormatInt_10 Tryz.lM173 v hv.1 hv.2 w1 (tab_at ((hg.block 1 hl).trans ht))).mono ?_
    rintro e w' ⟨rfl, k, os, rfl⟩
    exact ⟨rfl, hg.trans (growOf w1 k os)⟩
  go_enter Tryz.func98, Tryz.ntmps98
  go_wp2_with (first | (refine hp.mono ?_; rintro e w1 ⟨rfl, hg⟩) | (refine (hf _ hg).mono ?_; rintro e w2 ⟨rfl, hg2⟩))
  go_ret2
  exact ⟨rfl, hg2⟩
set_option maxRecDepth 100000 in
theorem number_err (s : ByteArray) (n : Int) (w : World) (hp : Calls Tryz.prog 158 #[.string s, .int .i64 10, .int .i64 64] w fun e w' => ∃ N, e = .returned (.tuple #[.int .i64 n, .iface (Tryz.lC174_ren.t 168) (.pointer (some ⟨N, 0, none⟩))]) ∧ Grow w w') :
    Calls Tryz.prog 98 #[.string s] w fun e w' => e = .returned (.tuple #[.int .i64 n, .bool false]) ∧ Grow w w' := by
  have mixed := mixed
  go_enter Tryz.func98, Tryz.ntmps98
  go_wp2_with (refine hp.mono ?_; rintro e w1 ⟨N, rfl, hg⟩)
  go_ret2
  exact ⟨rfl, hg⟩
namespace yef
abbrev ia : List Ai := [.dat .str]
abbrev io : List (Nat × Oi) := [(2, .dat (.int .i64)), (3, .dat .bool)]
noncomputable def f (s : ByteArray) : Option (DOut ia io) := if s.size ≤ 281474976710656 then some ((numB s).1, (numB s).2, ()) else none
theorem V_tup2 {E : Env} {w : World} {a : Int} {c : Bool} : V E w (.tup (.cons (.data (.int .i64) a) (.cons (.data .bool c) .done))) (.tuple #[.int .i64 a, .bool c]) := by
  rw [V_one rfl]
  refine ⟨_, rfl, _, _, rfl, ?_, _, _, rfl, ?_, rfl⟩
  · rw [if_neg (by simp [AV.isAgg, Ty.agg])]; rfl
  · rw [if_neg (by simp [AV.isAgg, Ty.agg])]; rfl
theorem ok : FnOk Tryz.prog 98 ia io (fun v => f v.1) := by
  refine leaf_ok ⟨Tryz.f98, Tryz.func98, by kernel_rfl, by kernel_rfl⟩ rfl (fun _ => rfl) (fun _ => rfl) (fun v u h E w vals hgl hc => ?_)
  obtain ⟨x, vs, rfl, h1, h3⟩ := hc
  have h3 : vs = [] := h3
  subst h3
  have h1 : x = .string v.1 := V_str.1 h1
  subst h1
  unfold f at h
  split at h
  · next hs =>
    injection h with h
    subst h
    have key : Calls Tryz.prog 98 #[.string v.1] w fun e w' => e = .returned (.tuple #[.int .i64 (numB v.1).1, .bool (numB v.1).2]) ∧ Grow w w' := by
      unfold numB
      rcases hp : Lib.parseIntB 64 v.1.data.toList with n | _ | _
      · dsimp only
        have hb := Lib.parseIntB_bounds hp
        obtain ⟨_, o, h1, t, fr, rfl⟩ := hgl.2 (1, fun o => ∃ t fr, o = .cells pow10Cells t fr) (by simp [Gl.ex])
        exact number_ok v.1 hs n hp ⟨by omega, by omega⟩ w t fr h1
      · dsimp only
        obtain ⟨ev, h1, h2⟩ := err_cell hgl 6 (.inl rfl)
        refine number_err v.1 0 w (Calls.mono (Any.strconv_ParseInt_10_at64_syntax Tryz.lC174 v.1 hs hp ev w h1 h2) fun e w' hh => ?_)
        obtain ⟨N, h1, _, _, hb⟩ := hh
        exact ⟨N, h1, growBelow hb⟩
      · dsimp only
        obtain ⟨ev, h1, h2⟩ := err_cell hgl 7 (.inr rfl)
        refine number_err v.1 _ w (Calls.mono (Any.strconv_ParseInt_10_at64_range Tryz.lC174 v.1 hs hp ev w h1 h2) fun e w' hh => ?_)
        obtain ⟨N, h1, _, _, hb⟩ := hh
        exact ⟨N, h1, growBelow hb⟩
    refine key.mono ?_
    rintro e w' ⟨rfl, hg⟩
    exact ⟨_, rfl, hg, fun E => V_tup2⟩
  · exact absurd h (by simp)
noncomputable def en : Entry := yaD 98 ia io (fun v => f v.1)
end yef
end Go.Proofs.YtdlkpmohjhjmfaaGreatDoor

namespace Go.Proofs.YtdlkpmohjhjmfaaGreatDoor
open Go Go.Va Go.Proofs
namespace ybc
abbrev ia : List Ai := [.dat .str]
abbrev io : List (Nat × Oi) := [(2, .dat .bool)]
abbrev R : Type := DOut ia io
noncomputable def X (n : Nat) : Ctx := ⟨⟨tab, [ycI.en], 0, []⟩, 21, bnOf 0 ia⟩
abbrev g1 : List Si := [.dat 0 .str, .val 6 (.r 200600 (.int .u8)), .dat 7 (.int .i64), .dat 8 (.int .i64)]
abbrev g2 : List Si := [.dat 0 .str]
noncomputable def T : CT := (.s .o (.s (.s .o (.b (.l g1 .o))) (.r g2 .o)))
noncomputable def J1 (n : Nat) (m : Nat) : ByteArray × (List (Int)) × Int × Int × Unit → Option R := jL (X n) n T (yaR Tryz.f129) (endK ia io) g1 [1, 0, 1, 0] [] m
noncomputable def J2 (n : Nat) : ByteArray × Unit → Option R := jR (X n) n T (yaR Tryz.f129) (endK ia io) g2 [1, 1] []
noncomputable def f (n : Nat) (s_ : ByteArray) : Option R := fRun (X n) n T Tryz.f129 ia io (s_, ())
theorem e0 (n : Nat) (s_ : ByteArray) : f n s_ =
  J1 n n (s_, (ybJ s_), (((ybJ s_).length : Nat) : Int), 0, ()) := (yah _).trans (by kernel_rfl)
theorem e1 (n m : Nat) (s_ : ByteArray) (t6 : List (Int)) (t7 : Int) (t8 : Int) : J1 n (m + 1) (s_, t6, t7, t8, ()) =
  bIf ((hide (decide (t8 < t7)))) (
    gIf (0 ≤ t8 ∧ t8 < ((t6.length : Nat) : Int)) (
      bIf ((hide (decide ((List.getD t6 (0 + t8.toNat) 0) < (32 : Int))))) (
        some (false, ())
        ) (
        bIf ((hide ((List.getD t6 (0 + t8.toNat) 0) == (127 : Int)))) (
          some (false, ())
          ) (
          J1 n m (s_, t6, t7, (IntKind.i64.wrap (t8 + (1 : Int))), ())
          )
        )
      )
    ) (
    J2 n (s_, ())
    ) := (yah _).trans (by kernel_rfl)
theorem e2 (n : Nat) (s_ : ByteArray) : J2 n (s_, ()) =
  bnd (ycI.f s_) fun u1 =>
  some (u1.1, ()) := (yah _).trans (by kernel_rfl)
theorem phi (n : Nat) : ∀ e ∈ (X n).c.Φ, EntryOk Tryz.prog e := yae (yac (ycI.ok)) (yax)
theorem ok (n : Nat) : FnOk Tryz.prog 129 ia io (fRun (X n) n T Tryz.f129 ia io) := yaH mixed tabIs (phi n) Tryz.func129 (by kernel_rfl) rfl
noncomputable def en (n : Nat) : Entry := yaD 129 ia io (fRun (X n) n T Tryz.f129 ia io)
end ybc
end Go.Proofs.YtdlkpmohjhjmfaaGreatDoor

namespace Go.Proofs.YtdlkpmohjhjmfaaGreatDoor
open Go Go.Va Go.Proofs
namespace yc8
abbrev ia:List Ai:=[.dat (.int .i64)]
abbrev io:List (Nat×Oi):=[(2,.dat (.int .i64))]
abbrev R:Type:=DOut ia io
noncomputable def X (n:Nat):Ctx:=⟨⟨tab,[],0,[]⟩,6,bnOf 0 ia⟩
noncomputable def T:CT := .o
noncomputable def f (n:Nat)(t:Int):Option R:=fRun (X n) n T Tryz.f170 ia io (t,())
theorem e0 (n:Nat)(t:Int):f n t =
  some ((maxI .i64 (-62135596800) (minI .i64 t 253402300799)),()):=(yah _).trans (by kernel_rfl)
theorem phi (n:Nat):∀ e∈(X n).c.Φ,EntryOk Tryz.prog e:=yax
theorem ok (n:Nat):FnOk Tryz.prog 170 ia io (fRun (X n) n T Tryz.f170 ia io):=yaH mixed tabIs (phi n) Tryz.func170 (by kernel_rfl) rfl
noncomputable def en (n:Nat):Entry:=yaD 170 ia io (fRun (X n) n T Tryz.f170 ia io)
end yc8
end Go.Proofs.YtdlkpmohjhjmfaaGreatDoor

namespace Go.Proofs.YtdlkpmohjhjmfaaGreatDoor
open Go Go.Va Go.Proofs
namespace ycZ
abbrev ia:List Ai:=[.dat yaK]
abbrev io:List (Nat×Oi):=[(2,.dat .bool)]
abbrev R:Type:=DOut ia io
noncomputable def X (n:Nat):Ctx:=⟨⟨tab,[yc8.en n],0,[]⟩,19,bnOf 0 ia⟩
abbrev g1:List Si:=[.ref 1 1 yaK,.dat 10 .bool,.box 1 (.d yaK)]
noncomputable def T:CT:=(.s .o (.s (.s .o (.b (.s .o (.c .o (.s .o (.r g1 .o)))))) .o))
noncomputable def J1 (n:Nat):Bool×yan×Unit→Option R:=jR (X n) n T (yaR Tryz.f171) (endK ia io) g1 [1,0,1,0,1,1,1] []
noncomputable def f (n:Nat)(l:yan):Option R:=fRun (X n) n T Tryz.f171 ia io (l,())
theorem e0 (n:Nat)(l:yan):f n l =
  bIf ((hide (l.1==(0:Int)))) (
    some ((hide (l.2.1==(0:Int))),())
    ) (
    bIf ((hide (l.1==(1:Int)))) (
      J1 n (true,l,())
      ) (
      J1 n ((hide (l.1==(2:Int))),l,())
      )
    ):=(yah _).trans (by kernel_rfl)
theorem e1 (n:Nat)(t10:Bool)(l:yan):J1 n (t10,l,()) =
  bIf (t10) (
    bnd (yc8.f n l.2.1) λu1=>
    some ((hide (l.2.1==u1.1)),())
    ) (
    some (false,())
    ):=(yah _).trans (by kernel_rfl)
theorem phi (n:Nat):∀ e∈(X n).c.Φ,EntryOk Tryz.prog e:=yae (yac (yc8.ok n)) (yax)
theorem ok (n:Nat):FnOk Tryz.prog 171 ia io (fRun (X n) n T Tryz.f171 ia io):=yaH mixed tabIs (phi n) Tryz.func171 (by kernel_rfl) rfl
noncomputable def en (n:Nat):Entry:=yaD 171 ia io (fRun (X n) n T Tryz.f171 ia io)
end ycZ
end Go.Proofs.YtdlkpmohjhjmfaaGreatDoor

namespace Go.Proofs.YtdlkpmohjhjmfaaGreatDoor
open Go Go.Va Go.Proofs
namespace yeg
abbrev ia:List Ai:=[.dat yaL]
abbrev io:List (Nat×Oi):=[(2,.dat .bool)]
abbrev R:Type:=DOut ia io
noncomputable def X (n:Nat):Ctx:=⟨⟨tab,[ybc.en n],0,[]⟩,28,bnOf 0 ia⟩
noncomputable def T:CT := .o
noncomputable def f (n:Nat)(t:yak):Option R:=fRun (X n) n T Tryz.f224 ia io (t,())
theorem e0 (n:Nat) (t:yak):f n t =
  bIf ((hide (!eqS t.1 (⟨#[]⟩:ByteArray)))) (
    bIf ((hide (decide ((t.1.size:Int)≤(64:Int))))) (
      bIf ((hide (decide ((t.2.1.size:Int)≤(64:Int))))) (
        bnd (ybc.f n t.1) λu1=>
        bIf (u1.1) (
          bnd (ybc.f n t.2.1) λu2=>
          some (u2.1,())
          ) (
          some (false,())
          )
        ) (
        some (false,())
        )
      ) (
      some (false,())
      )
    ) (
    some (false,())
    ):=(yah _).trans (by kernel_rfl)
theorem phi (n:Nat):∀ e∈(X n).c.Φ,EntryOk Tryz.prog e:=yae (yac (ybc.ok n)) (yax)
theorem ok (n:Nat):FnOk Tryz.prog 224 ia io (fRun (X n) n T Tryz.f224 ia io):=yaH mixed tabIs (phi n) Tryz.func224 (by kernel_rfl) rfl
noncomputable def en (n:Nat):Entry:=yaD 224 ia io (fRun (X n) n T Tryz.f224 ia io)
end yeg
end Go.Proofs.YtdlkpmohjhjmfaaGreatDoor

namespace Go.Proofs.YtdlkpmohjhjmfaaGreatDoor
open Go Go.Va Go.Proofs
namespace ycd
abbrev ia:List Ai:=[.dat (.slice yaL)]
abbrev io:List (Nat×Oi):=[(2,.dat .bool)]
abbrev R:Type:=DOut ia io
noncomputable def X (n:Nat):Ctx:=⟨⟨tab,[yeg.en n],0,[]⟩,34,bnOf 0 ia⟩
abbrev g1:List Si:=[.dat 0 (.slice yaL),.dat 8 (.slice yaL),.dat 9 (.int .i64),.dat 10 (.int .i64)]
abbrev g2:List Si:=[]
noncomputable def T:CT:=(.s .o (.s .o (.s (.s .o (.b (.l g1 .o))) (.r g2 .o))))
noncomputable def J1 (n:Nat)(m:Nat):(List (yak))×(List (yak))×Int×Int×Unit→Option R:=jL (X n) n T (yaR Tryz.f172) (endK ia io) g1 [1,1,0,1,0] [] m
noncomputable def J2 (n:Nat):Unit→Option R:=jR (X n) n T (yaR Tryz.f172) (endK ia io) g2 [1,1,1] []
noncomputable def f (n:Nat)(list:List (yak)):Option R:=fRun (X n) n T Tryz.f172 ia io (list,())
theorem e0 (n:Nat)(list:List (yak)):f n list =
  bIf ((hide (decide (((list.length:Nat):Int)>(8:Int))))) (
    some (false,())
    ) (
    J1 n n (list,list,((list.length:Nat):Int),0,())
    ):=(yah _).trans (by kernel_rfl)
theorem e1 (n m:Nat) (list:List (yak)) (t8:List (yak)) (t9:Int) (t10:Int):J1 n (m+1) (list,t8,t9,t10,()) =
  bIf ((hide (decide (t10<t9)))) (
    gIf (0≤t10∧t10<((t8.length:Nat):Int)) (
      bnd (yeg.f n (List.getD t8 t10.toNat (Va.dflt yaL))) λu1=>
      bIf ((!u1.1)) (
        some (false,())
        ) (
        bIf ((hide (decide (t10>(0:Int))))) (
          gIf (0≤(IntKind.i64.wrap (t10-(1:Int)))∧(IntKind.i64.wrap (t10-(1:Int)))<((list.length:Nat):Int)) (
            bIf ((hide (!ltS ((List.getD list ((IntKind.i64.wrap (t10-(1:Int))).toNat) (Va.dflt yaL)).1) ((List.getD t8 t10.toNat (Va.dflt yaL)).1)))) (
              some (false,())
              ) (
              J1 n m (list,t8,t9,(IntKind.i64.wrap (t10+(1:Int))),())
              )
            )
          ) (
          J1 n m (list,t8,t9,(IntKind.i64.wrap (t10+(1:Int))),())
          )
        )
      )
    ) (
    J2 n (())
    ):=(yah _).trans (by kernel_rfl)
theorem e2 (n:Nat):J2 n (()) =
  some (true,()):=(yah _).trans (by kernel_rfl)
theorem phi (n:Nat):∀ e∈(X n).c.Φ,EntryOk Tryz.prog e:=yae (yac (yeg.ok n)) (yax)
theorem ok (n:Nat):FnOk Tryz.prog 172 ia io (fRun (X n) n T Tryz.f172 ia io):=yaH mixed tabIs (phi n) Tryz.func172 (by kernel_rfl) rfl
noncomputable def en (n:Nat):Entry:=yaD 172 ia io (fRun (X n) n T Tryz.f172 ia io)
end ycd
end Go.Proofs.YtdlkpmohjhjmfaaGreatDoor

namespace Go.Proofs.YtdlkpmohjhjmfaaGreatDoor
open Go Go.Va Go.Proofs
namespace yce
abbrev ia:List Ai:=[.dat (.slice yaL),.dat (.slice yaL)]
abbrev io:List (Nat×Oi):=[(4,.dat .bool)]
abbrev R:Type:=DOut ia io
noncomputable def X (n:Nat):Ctx:=⟨⟨tab,[],0,[]⟩,26,bnOf 0 ia⟩
abbrev g1:List Si:=[.dat 0 (.slice yaL),.dat 1 (.slice yaL),.dat 12 (.int .i64),.dat 13 (.int .i64)]
abbrev g2:List Si:=[]
noncomputable def T:CT:=(.s .o (.s .o (.s (.s .o (.b (.l g1 .o))) (.r g2 .o))))
noncomputable def J1 (n:Nat)(m:Nat):(List (yak))×(List (yak))×Int×Int×Unit→Option R:=jL (X n) n T (yaR Tryz.f194) (endK ia io) g1 [1,1,0,1,0] [] m
noncomputable def J2 (n:Nat):Unit→Option R:=jR (X n) n T (yaR Tryz.f194) (endK ia io) g2 [1,1,1] []
noncomputable def f (n:Nat)(s1:List (yak))(s2:List (yak)):Option R:=fRun (X n) n T Tryz.f194 ia io (s1,s2,())
theorem e0 (n:Nat)(s1:List (yak))(s2:List (yak)):f n s1 s2 =
  bIf ((hide (((s1.length:Nat):Int) != ((s2.length:Nat):Int)))) (
    some (false,())
    ) (
    J1 n n (s1,s2,((s1.length:Nat):Int),0,())
    ):=(yah _).trans (by kernel_rfl)
theorem e1 (n m:Nat) (s1:List (yak)) (s2:List (yak)) (t12:Int) (t13:Int):J1 n (m+1) (s1,s2,t12,t13,()) =
  bIf ((hide (decide (t13<t12)))) (
    gIf (0≤t13∧t13<((s1.length:Nat):Int)) (
      gIf (0≤t13∧t13<((s2.length:Nat):Int)) (
        bIf ((hide (!(eqD yaL (List.getD s1 t13.toNat (Va.dflt yaL)) (List.getD s2 t13.toNat (Va.dflt yaL)))))) (
          some (false,())
          ) (
          J1 n m (s1,s2,t12,(IntKind.i64.wrap (t13+(1:Int))),())
          )
        )
      )
    ) (
    J2 n (())
    ):=(yah _).trans (by kernel_rfl)
theorem e2 (n:Nat):J2 n (()) =
  some (true,()):=(yah _).trans (by kernel_rfl)
theorem phi (n:Nat):∀ e∈(X n).c.Φ,EntryOk Tryz.prog e:=yax
theorem ok (n:Nat):FnOk Tryz.prog 194 ia io (fRun (X n) n T Tryz.f194 ia io):=yaH mixed tabIs (phi n) Tryz.func194 (by kernel_rfl) rfl
noncomputable def en (n:Nat):Entry:=yaD 194 ia io (fRun (X n) n T Tryz.f194 ia io)
end yce
end Go.Proofs.YtdlkpmohjhjmfaaGreatDoor

namespace Go.Proofs.YtdlkpmohjhjmfaaGreatDoor
open Go Go.Va Go.Proofs
namespace ycJ
abbrev ia:List Ai:=[.dat (.slice yaL),.dat (.slice yaL)]
abbrev io:List (Nat×Oi):=[(4,.dat .bool)]
abbrev R:Type:=DOut ia io
noncomputable def X (n:Nat):Ctx:=⟨⟨tab,[yce.en n],0,[]⟩,8,bnOf 0 ia⟩
noncomputable def T:CT := .o
noncomputable def f (n:Nat)(a:List (yak))(b:List (yak)):Option R:=fRun (X n) n T Tryz.f139 ia io (a,b,())
theorem e0 (n:Nat)(a:List (yak))(b:List (yak)):f n a b =
  bnd (yce.f n a b) λu1=>
  some (u1.1,()):=(yah _).trans (by kernel_rfl)
theorem phi (n:Nat):∀ e∈(X n).c.Φ,EntryOk Tryz.prog e:=yae (yac (yce.ok n)) (yax)
theorem ok (n:Nat):FnOk Tryz.prog 139 ia io (fRun (X n) n T Tryz.f139 ia io):=yaH mixed tabIs (phi n) Tryz.func139 (by kernel_rfl) rfl
noncomputable def en (n:Nat):Entry:=yaD 139 ia io (fRun (X n) n T Tryz.f139 ia io)
end ycJ
end Go.Proofs.YtdlkpmohjhjmfaaGreatDoor

namespace Go.Proofs.YtdlkpmohjhjmfaaGreatDoor
open Go Go.Va Go.Proofs
namespace yb5
abbrev ia:List Ai:=[.dat (.slice yaL),.dat (.slice yaL)]
abbrev io:List (Nat×Oi):=[(4,.dat .bool)]
abbrev R:Type:=DOut ia io
noncomputable def X (n:Nat):Ctx:=⟨⟨tab,[],0,[]⟩,41,bnOf 0 ia⟩
abbrev g1:List Si:=[.dat 0 (.slice yaL),.dat 1 (.slice yaL),.dat 5 (.int .i64)]
abbrev g2:List Si:=[.dat 0 (.slice yaL),.dat 1 (.slice yaL),.dat 5 (.int .i64)]
abbrev g3:List Si:=[]
noncomputable def T:CT:=(.s .o (.s .o (.s (.s .o (.b (.l g1 (.s .o (.s .o (.r g2 .o)))))) (.r g3 .o))))
noncomputable def J1 (n:Nat)(m:Nat):(List (yak))×(List (yak))×Int×Unit→Option R:=jL (X n) n T (yaR Tryz.f102) (endK ia io) g1 [1,1,0,1,0] [] m
noncomputable def J2 (n m1:Nat):(List (yak))×(List (yak))×Int×Unit→Option R:=jR (X n) n T (yaR Tryz.f102) (endK ia io) g2 [1,1,0,1,0,0,1,1] [m1]
noncomputable def J3 (n:Nat):Unit→Option R:=jR (X n) n T (yaR Tryz.f102) (endK ia io) g3 [1,1,1] []
noncomputable def f (n:Nat)(a:List (yak))(b:List (yak)):Option R:=fRun (X n) n T Tryz.f102 ia io (a,b,())
theorem e0 (n:Nat)(a:List (yak))(b:List (yak)):f n a b =
  bIf ((hide (((a.length:Nat):Int) != ((b.length:Nat):Int)))) (
    some (false,())
    ) (
    J1 n n (a,b,0,())
    ):=(yah _).trans (by kernel_rfl)
theorem e1 (n m : Nat) (a:List (yak)) (b:List (yak)) (i:Int):J1 n (m+1) (a,b,i,()) =
  bIf ((hide (decide (i<((a.length:Nat):Int))))) (
    gIf (0≤i∧i<((a.length:Nat):Int)) (
      gIf (0≤i∧i<((b.length:Nat):Int)) (
        bIf ((hide (!eqS ((List.getD a i.toNat (Va.dflt yaL)).1) ((List.getD b i.toNat (Va.dflt yaL)).1)))) (
          some (false,())
          ) (
          gIf (0≤i∧i<((a.length:Nat):Int)) (
            gIf (0≤i∧i<((b.length:Nat):Int)) (
              bIf ((hide (!eqS (((List.getD a i.toNat (Va.dflt yaL)).2).1) (((List.getD b i.toNat (Va.dflt yaL)).2).1)))) (
                some (false,())
                ) (
                J2 n m (a,b,i,())
                )
              )
            )
          )
        )
      )
    ) (
    J3 n (())
    ):=(yah _).trans (by kernel_rfl)
theorem e2 (n m1:Nat)(a:List (yak))(b:List (yak))(i:Int):J2 n m1 (a,b,i,()) =
  J1 n m1 (a,b,(IntKind.i64.wrap (i+(1:Int))),()):=(yah _).trans (by kernel_rfl)
theorem e3 (n:Nat):J3 n (()) =
  some (true,()):=(yah _).trans (by kernel_rfl)
theorem phi (n:Nat):∀ e∈(X n).c.Φ,EntryOk Tryz.prog e:=yax
theorem ok (n:Nat):FnOk Tryz.prog 102 ia io (fRun (X n) n T Tryz.f102 ia io):=yaH mixed tabIs (phi n) Tryz.func102 (by kernel_rfl) rfl
noncomputable def en (n:Nat):Entry:=yaD 102 ia io (fRun (X n) n T Tryz.f102 ia io)
end yb5
end Go.Proofs.YtdlkpmohjhjmfaaGreatDoor

namespace Go.Proofs.YtdlkpmohjhjmfaaGreatDoor
open Go Go.Va Go.Proofs
namespace ydq
abbrev ia:List Ai:=[.dat .str]
abbrev io:List (Nat×Oi):=[(2,.dat .bool)]
abbrev R:Type:=DOut ia io
noncomputable def X (n:Nat):Ctx:=⟨⟨tab,[ybc.en n],0,[]⟩,14,bnOf 0 ia⟩
noncomputable def T:CT := .o
noncomputable def f (n:Nat)(s_:ByteArray):Option R:=fRun (X n) n T Tryz.f193 ia io (s_,())
theorem e0 (n:Nat)(s_:ByteArray):f n s_ =
  bIf ((hide (!eqS s_ (⟨#[]⟩:ByteArray)))) (
    bIf ((hide (decide ((s_.size:Int)≤(200:Int))))) (
      bnd (ybc.f n s_) λu1=>
      some (u1.1,())
      ) (
      some (false,())
      )
    ) (
    some (false,())
    ):=(yah _).trans (by kernel_rfl)
theorem phi (n:Nat):∀ e∈(X n).c.Φ,EntryOk Tryz.prog e:=yae (yac (ybc.ok n)) (yax)
theorem ok (n:Nat):FnOk Tryz.prog 193 ia io (fRun (X n) n T Tryz.f193 ia io):=yaH mixed tabIs (phi n) Tryz.func193 (by kernel_rfl) rfl
noncomputable def en (n:Nat):Entry:=yaD 193 ia io (fRun (X n) n T Tryz.f193 ia io)
end ydq
end Go.Proofs.YtdlkpmohjhjmfaaGreatDoor

namespace Go.Proofs.YtdlkpmohjhjmfaaGreatDoor
open Go Go.Va Go.Proofs
namespace ycs
abbrev ia:List Ai:=[.dat yb4]
abbrev io:List (Nat×Oi):=[(2,.dat .bool)]
abbrev R:Type:=DOut ia io
noncomputable def X (n:Nat):Ctx:=⟨⟨tab,[yc8.en n,ycZ.en n,ycd.en n],0,[]⟩,65,bnOf 0 ia⟩
abbrev g1:List Si:=[.ref 1 1 yb4,.box 1 (.d yb4)]
noncomputable def T:CT:=(.s .o (.s .o (.r g1 .o)))
noncomputable def J1 (n:Nat):ybs×Unit→Option R:=jR (X n) n T (yaR Tryz.f108) (endK ia io) g1 [1,1] []
noncomputable def f (n:Nat)(v_:ybs):Option R:=fRun (X n) n T Tryz.f108 ia io (v_,())
theorem e0 (n:Nat)(v_:ybs):f n v_ =
  bIf ((hide (v_.1==(0:Int)))) (
    some (false,())
    ) (
    bnd (yc8.f n v_.2.2.2.2.2.1) λu1=>
    bIf ((hide (v_.2.2.2.2.2.1 != u1.1))) (
      some (false,())
      ) (
      J1 n (v_,())
      )
    ):=(yah _).trans (by kernel_rfl)
theorem e1 (n:Nat) (v_:ybs):J1 n (v_,()) =
  bIf (v_.2.1) (
    bIf ((hide (v_.2.2.1==(0:Int)))) (
      bIf ((hide (v_.2.2.2.1==(0:Int)))) (
        bIf ((hide (eqD (.arr 32 (.int .u8)) v_.2.2.2.2.1 ([]++List.replicate (32-([]:List (Int)).length) 0)))) (
          bIf ((hide (eqD yaK v_.2.2.2.2.2.2.1 (0,(0,(false,())))))) (
            some ((hide (((v_.2.2.2.2.2.2.2.1.length:Nat):Int)==(0:Int))),())
            ) (
            some (false,())
            )
          ) (
          some (false,())
          )
        ) (
        some (false,())
        )
      ) (
      some (false,())
      )
    ) (
    bIf ((hide (decide (v_.2.2.1≥(0:Int))))) (
      bIf ((hide (decide (v_.2.2.1≤(16384:Int))))) (
        bIf ((hide (decide (v_.2.2.2.1>(0:Int))))) (
          bnd (ycZ.f n v_.2.2.2.2.2.2.1) λu1=>
          bIf (u1.1) (
            bnd (ycd.f n v_.2.2.2.2.2.2.2.1) λu2=>
            some (u2.1,())
            ) (
            some (false,())
            )
          ) (
          some (false,())
          )
        ) (
        some (false,())
        )
      ) (
      some (false,())
      )
    ):=(yah _).trans (by kernel_rfl)
theorem phi (n:Nat):∀ e∈(X n).c.Φ,EntryOk Tryz.prog e:=yae (yac (yc8.ok n)) (yae (yac (ycZ.ok n)) (yae (yac (ycd.ok n)) (yax)))
theorem ok (n:Nat):FnOk Tryz.prog 108 ia io (fRun (X n) n T Tryz.f108 ia io):=yaH mixed tabIs (phi n) Tryz.func108 (by kernel_rfl) rfl
noncomputable def en (n:Nat):Entry:=yaD 108 ia io (fRun (X n) n T Tryz.f108 ia io)
end ycs
end Go.Proofs.YtdlkpmohjhjmfaaGreatDoor

namespace Go.Proofs.YtdlkpmohjhjmfaaGreatDoor
open Go Go.Va Go.Proofs
namespace ya9
abbrev ia:List Ai:=[.dat yb4,.dat yb4]
abbrev io:List (Nat×Oi):=[(4,.dat .bool)]
abbrev R:Type:=DOut ia io
noncomputable def X (n:Nat):Ctx:=⟨⟨tab,[ycJ.en n],0,[]⟩,61,bnOf 0 ia⟩
noncomputable def T:CT := .o
noncomputable def f (n:Nat)(a:ybs)(b:ybs):Option R:=fRun (X n) n T Tryz.f166 ia io (a,b,())
theorem e0 (n : Nat) (a:ybs) (b:ybs):f n a b =
  bnd (ycJ.f n a.2.2.2.2.2.2.2.1 b.2.2.2.2.2.2.2.1) λu1=>
  bIf (u1.1) (
    bIf ((hide (a.1==b.1))) (
      bIf ((hide (a.2.1==b.2.1))) (
        bIf ((hide (a.2.2.1==b.2.2.1))) (
          bIf ((hide (a.2.2.2.1==b.2.2.2.1))) (
            bIf ((hide (eqD (.arr 32 (.int .u8)) a.2.2.2.2.1 b.2.2.2.2.1))) (
              bIf ((hide (a.2.2.2.2.2.1==b.2.2.2.2.2.1))) (
                some ((hide (eqD yaK a.2.2.2.2.2.2.1 b.2.2.2.2.2.2.1)),())
                ) (
                some (false,())
                )
              ) (
              some (false,())
              )
            ) (
            some (false,())
            )
          ) (
          some (false,())
          )
        ) (
        some (false,())
        )
      ) (
      some (false,())
      )
    ) (
    some (false,())
    ):=(yah _).trans (by kernel_rfl)
theorem phi (n:Nat):∀ e∈(X n).c.Φ,EntryOk Tryz.prog e:=yae (yac (ycJ.ok n)) (yax)
theorem ok (n:Nat):FnOk Tryz.prog 166 ia io (fRun (X n) n T Tryz.f166 ia io):=yaH mixed tabIs (phi n) Tryz.func166 (by kernel_rfl) rfl
noncomputable def en (n:Nat):Entry:=yaD 166 ia io (fRun (X n) n T Tryz.f166 ia io)
end ya9
end Go.Proofs.YtdlkpmohjhjmfaaGreatDoor

namespace Go.Proofs.YtdlkpmohjhjmfaaGreatDoor
open Go Go.Va Go.Proofs
namespace ycg
abbrev ia:List Ai:=[.dat yb4,.dat yb4]
abbrev io:List (Nat×Oi):=[(4,.dat .bool)]
abbrev R:Type:=DOut ia io
noncomputable def X (n:Nat):Ctx:=⟨⟨tab,[yb5.en n],0,[]⟩,57,bnOf 0 ia⟩
abbrev g1:List Si:=[.ref 2 2 yb4,.ref 3 3 yb4,.box 2 (.d yb4),.box 3 (.d yb4)]
noncomputable def T:CT:=(.s .o (.s .o (.r g1 .o)))
noncomputable def J1 (n:Nat):ybs×ybs×Unit→Option R:=jR (X n) n T (yaR Tryz.f68) (endK ia io) g1 [1,1] []
noncomputable def f (n:Nat)(a:ybs)(b:ybs):Option R:=fRun (X n) n T Tryz.f68 ia io (a,b,())
theorem e0 (n : Nat) (a:ybs) (b:ybs):f n a b =
  bIf ((hide (a.1 != b.1))) (
    some (false,())
    ) (
    bIf ((hide (!(a.2.1==b.2.1)))) (
      some (false,())
      ) (
      bIf ((hide (a.2.2.1 != b.2.2.1))) (
        some (false,())
        ) (
        bIf ((hide (a.2.2.2.1 != b.2.2.2.1))) (
          some (false,())
          ) (
          bIf ((hide (a.2.2.2.2.2.1 != b.2.2.2.2.2.1))) (
            some (false,())
            ) (
            bIf ((hide (!(eqD yaK a.2.2.2.2.2.2.1 b.2.2.2.2.2.2.1)))) (
              some (false,())
              ) (
              J1 n (a,b,())
              )
            )
          )
        )
      )
    ):=(yah _).trans (by kernel_rfl)
theorem e1 (n:Nat)(a:ybs)(b:ybs):J1 n (a,b,()) =
  bIf ((hide (eqD (.arr 32 (.int .u8)) a.2.2.2.2.1 b.2.2.2.2.1))) (
    bnd (yb5.f n a.2.2.2.2.2.2.2.1 b.2.2.2.2.2.2.2.1) λu1=>
    some (u1.1,())
    ) (
    some (false,())
    ):=(yah _).trans (by kernel_rfl)
theorem phi (n:Nat):∀ e∈(X n).c.Φ,EntryOk Tryz.prog e:=yae (yac (yb5.ok n)) (yax)
theorem ok (n:Nat):FnOk Tryz.prog 68 ia io (fRun (X n) n T Tryz.f68 ia io):=yaH mixed tabIs (phi n) Tryz.func68 (by kernel_rfl) rfl
noncomputable def en (n:Nat):Entry:=yaD 68 ia io (fRun (X n) n T Tryz.f68 ia io)
end ycg
end Go.Proofs.YtdlkpmohjhjmfaaGreatDoor

namespace Go.Proofs.YtdlkpmohjhjmfaaGreatDoor
open Go Go.Va Go.Proofs
namespace ydZ
abbrev ia:List Ai:=[.dat yaz]
abbrev io:List (Nat×Oi):=[(2,.dat .bool)]
abbrev R:Type:=DOut ia io
noncomputable def X (n:Nat):Ctx:=⟨⟨tab,[],0,[]⟩,21,bnOf 0 ia⟩
abbrev g1:List Si:=[.ref 1 1 yaz,.dat 10 .bool,.box 1 (.d yaz)]
noncomputable def T:CT:=(.s .o (.s (.s .o (.b (.s .o (.c .o (.s .o (.r g1 .o)))))) .o))
noncomputable def J1 (n:Nat):Bool×yaj×Unit→Option R:=jR (X n) n T (yaR Tryz.f181) (endK ia io) g1 [1,0,1,0,1,1,1] []
noncomputable def f (n:Nat)(d:yaj):Option R:=fRun (X n) n T Tryz.f181 ia io (d,())
theorem e0 (n:Nat)(d:yaj):f n d =
  bIf ((hide (d.1==(0:Int)))) (
    some ((hide (d.2.1==(0:Int))),())
    ) (
    bIf ((hide (d.1==(1:Int)))) (
      J1 n (true,d,())
      ) (
      J1 n ((hide (d.1==(2:Int))),d,())
      )
    ):=(yah _).trans (by kernel_rfl)
theorem e1 (n:Nat)(t10:Bool)(d:yaj):J1 n (t10,d,()) =
  bIf (t10) (
    bIf ((hide (decide (d.2.1≥(1:Int))))) (
      some ((hide (decide (d.2.1≤(36500:Int)))),())
      ) (
      some (false,())
      )
    ) (
    some (false,())
    ):=(yah _).trans (by kernel_rfl)
theorem phi (n:Nat):∀ e∈(X n).c.Φ,EntryOk Tryz.prog e:=yax
theorem ok (n:Nat):FnOk Tryz.prog 181 ia io (fRun (X n) n T Tryz.f181 ia io):=yaH mixed tabIs (phi n) Tryz.func181 (by kernel_rfl) rfl
noncomputable def en (n:Nat):Entry:=yaD 181 ia io (fRun (X n) n T Tryz.f181 ia io)
end ydZ
end Go.Proofs.YtdlkpmohjhjmfaaGreatDoor

namespace Go.Proofs.YtdlkpmohjhjmfaaGreatDoor
open Go Go.Va Go.Proofs
namespace ycq
abbrev ia:List Ai:=[.dat .str]
abbrev io:List (Nat×Oi):=[(2,.val (.r 0 ydj)),(3,.dat .bool)]
abbrev R:Type:=DOut ia io
noncomputable def X (n:Nat):Ctx:=⟨⟨tab,[],0,[]⟩,46,bnOf 0 ia⟩
abbrev g1:List Si:=[.dat 0 .str,.val 4 (.r 200400 ydj),.dat 5 (.int .i64)]
abbrev g2:List Si:=[.dat 0 .str,.val 4 (.r 200400 ydj),.dat 5 (.int .i64)]
abbrev g3:List Si:=[.dat 0 .str,.val 4 (.r 200400 ydj),.dat 5 (.int .i64)]
abbrev g4:List Si:=[.val 4 (.r 200400 ydj)]
noncomputable def T:CT:=(.s .o (.s .o (.s .o (.s (.s .o (.b (.l g1 (.s .o (.s (.b (.s .o (.b (.s .o (.r g2 .o))))) (.r g3 .o)))))) (.r g4 .o)))))
noncomputable def J1 (n:Nat)(m:Nat):ByteArray×(List (ycL))×Int×Unit→Option R:=jL (X n) n T (yaR Tryz.f253) (endK ia io) g1 [1,1,1,0,1,0] [] m
noncomputable def J2 (n m1:Nat):ByteArray×(List (ycL))×Int×Unit→Option R:=jR (X n) n T (yaR Tryz.f253) (endK ia io) g2 [1,1,1,0,1,0,0,1,0,0,1,0,1] [m1]
noncomputable def J3 (n m1:Nat):ByteArray×(List (ycL))×Int×Unit→Option R:=jR (X n) n T (yaR Tryz.f253) (endK ia io) g3 [1,1,1,0,1,0,0,1,1] [m1]
noncomputable def J4 (n:Nat):(List (ycL))×Unit→Option R:=jR (X n) n T (yaR Tryz.f253) (endK ia io) g4 [1,1,1,1] []
noncomputable def f (n:Nat)(p:ByteArray):Option R:=fRun (X n) n T Tryz.f253 ia io (p,())
theorem e0 (n:Nat)(p:ByteArray):f n p =
  bIf ((hide (decide ((p.size:Int)>(200:Int))))) (
    some ([],false,())
    ) (
    J1 n n (p,[],0,())
    ):=(yah _).trans (by kernel_rfl)
theorem e1 (n m:Nat) (p:ByteArray) (out:List (ycL)) (i:Int):J1 n (m+1) (p,out,i,()) =
  bIf ((hide (decide (i<(p.size:Int))))) (
    gIf (0≤i∧i<(p.size:Int)) (
      bIf ((hide ((bt p i)==(42:Int)))) (
        gIf ((out.length+1)*16≤70368744177664) (
          J3 n m (p,(out++([(2,(0,()))]:List (ycL))),i,())
          )
        ) (
        bIf ((hide ((bt p i)==(63:Int)))) (
          gIf ((out.length+1)*16≤70368744177664) (
            J3 n m (p,(out++([(1,(0,()))]:List (ycL))),i,())
            )
          ) (
          bIf ((hide ((bt p i)==(92:Int)))) (
            bIf ((hide ((IntKind.i64.wrap (i+(1:Int)))==(p.size:Int)))) (
              some ([],false,())
              ) (
              J2 n m (p,out,(IntKind.i64.wrap (i+(1:Int))),())
              )
            ) (
            J2 n m (p,out,i,())
            )
          )
        )
      )
    ) (
    J4 n (out,())
    ):=(yah _).trans (by kernel_rfl)
theorem e2 (n m1:Nat)(p:ByteArray)(out:List (ycL))(i:Int):J2 n m1 (p,out,i,()) =
  gIf (0≤i∧i<(p.size:Int)) (
    gIf ((out.length+1)*16≤70368744177664) (
      J3 n m1 (p,(out++([(0,((bt p i),()))]:List (ycL))),i,())
      )
    ):=(yah _).trans (by kernel_rfl)
theorem e3 (n m1:Nat)(p:ByteArray)(out:List (ycL))(i:Int):J3 n m1 (p,out,i,()) =
  J1 n m1 (p,out,(IntKind.i64.wrap (i+(1:Int))),()):=(yah _).trans (by kernel_rfl)
theorem e4 (n:Nat)(out:List (ycL)):J4 n (out,()) =
  some (out,true,()):=(yah _).trans (by kernel_rfl)
theorem phi (n:Nat):∀ e∈(X n).c.Φ,EntryOk Tryz.prog e:=yax
theorem ok (n:Nat):FnOk Tryz.prog 253 ia io (fRun (X n) n T Tryz.f253 ia io):=yaH mixed tabIs (phi n) Tryz.func253 (by kernel_rfl) rfl
noncomputable def en (n:Nat):Entry:=yaD 253 ia io (fRun (X n) n T Tryz.f253 ia io)
end ycq
end Go.Proofs.YtdlkpmohjhjmfaaGreatDoor

namespace Go.Proofs.YtdlkpmohjhjmfaaGreatDoor
open Go Go.Va Go.Proofs
namespace ydz
abbrev ia:List Ai:=[.dat .str]
abbrev io:List (Nat×Oi):=[(2,.dat .bool)]
abbrev R:Type:=DOut ia io
noncomputable def X (n:Nat):Ctx:=⟨⟨tab,[ycq.en n],0,[]⟩,11,bnOf 0 ia⟩
noncomputable def T:CT := .o
noncomputable def f (n:Nat)(p:ByteArray):Option R:=fRun (X n) n T Tryz.f232 ia io (p,())
theorem e0 (n:Nat)(p:ByteArray):f n p =
  bnd (ycq.f n p) λu1=>
  some (u1.2.1,()):=(yah _).trans (by kernel_rfl)
theorem phi (n:Nat):∀ e∈(X n).c.Φ,EntryOk Tryz.prog e:=yae (yac (ycq.ok n)) (yax)
theorem ok (n:Nat):FnOk Tryz.prog 232 ia io (fRun (X n) n T Tryz.f232 ia io):=yaH mixed tabIs (phi n) Tryz.func232 (by kernel_rfl) rfl
noncomputable def en (n:Nat):Entry:=yaD 232 ia io (fRun (X n) n T Tryz.f232 ia io)
end ydz
end Go.Proofs.YtdlkpmohjhjmfaaGreatDoor

namespace Go.Proofs.YtdlkpmohjhjmfaaGreatDoor
open Go Go.Va Go.Proofs
namespace ydW
abbrev ia:List Ai:=[.dat yaG]
abbrev io:List (Nat×Oi):=[(2,.dat .bool)]
abbrev R:Type:=DOut ia io
noncomputable def X (n:Nat):Ctx:=⟨⟨tab,[ybc.en n,ycd.en n],0,[]⟩,37,bnOf 0 ia⟩
noncomputable def T:CT := .o
noncomputable def f (n:Nat)(r:yai):Option R:=fRun (X n) n T Tryz.f229 ia io (r,())
theorem e0 (n : Nat) (r:yai):f n r =
  bIf ((hide (decide ((r.1.size:Int)≤(200:Int))))) (
    bnd (ybc.f n r.1) λu1=>
    bIf (u1.1) (
      bnd (ycd.f n r.2.1) λu2=>
      bIf (u2.1) (
        bIf ((hide (decide (r.2.2.1≥(0:Int))))) (
          bIf ((hide (decide (r.2.2.1≤(36500:Int))))) (
            bIf ((hide (decide (r.2.2.2.1≥(0:Int))))) (
              some ((hide (decide (r.2.2.2.1≤(36500:Int)))),())
              ) (
              some (false,())
              )
            ) (
            some (false,())
            )
          ) (
          some (false,())
          )
        ) (
        some (false,())
        )
      ) (
      some (false,())
      )
    ) (
    some (false,())
    ):=(yah _).trans (by kernel_rfl)
theorem phi (n:Nat):∀ e∈(X n).c.Φ,EntryOk Tryz.prog e:=yae (yac (ybc.ok n)) (yae (yac (ycd.ok n)) (yax))
theorem ok (n:Nat):FnOk Tryz.prog 229 ia io (fRun (X n) n T Tryz.f229 ia io):=yaH mixed tabIs (phi n) Tryz.func229 (by kernel_rfl) rfl
noncomputable def en (n:Nat):Entry:=yaD 229 ia io (fRun (X n) n T Tryz.f229 ia io)
end ydW
end Go.Proofs.YtdlkpmohjhjmfaaGreatDoor

namespace Go.Proofs.YtdlkpmohjhjmfaaGreatDoor
open Go Go.Va Go.Proofs
namespace ydE
abbrev ia:List Ai:=[.dat yaG]
abbrev io:List (Nat×Oi):=[(2,.dat .bool)]
abbrev R:Type:=DOut ia io
noncomputable def X (n:Nat):Ctx:=⟨⟨tab,[ydW.en n],0,[]⟩,6,bnOf 0 ia⟩
noncomputable def T:CT := .o
noncomputable def f (n:Nat)(r:yai):Option R:=fRun (X n) n T Tryz.f228 ia io (r,())
theorem e0 (n:Nat)(r:yai):f n r =
  bnd (ydW.f n r) λu1=>
  some ((!u1.1),()):=(yah _).trans (by kernel_rfl)
theorem phi (n:Nat):∀ e∈(X n).c.Φ,EntryOk Tryz.prog e:=yae (yac (ydW.ok n)) (yax)
theorem ok (n:Nat):FnOk Tryz.prog 228 ia io (fRun (X n) n T Tryz.f228 ia io):=yaH mixed tabIs (phi n) Tryz.func228 (by kernel_rfl) rfl
noncomputable def en (n:Nat):Entry:=yaD 228 ia io (fRun (X n) n T Tryz.f228 ia io)
end ydE
end Go.Proofs.YtdlkpmohjhjmfaaGreatDoor

namespace Go.Proofs.YtdlkpmohjhjmfaaGreatDoor
open Go Go.Va Go.Proofs
namespace ybu
abbrev ia:List Ai:=[.dat (.slice yaG),.fn (.fn 228) []]
abbrev io:List (Nat×Oi):=[(4,.dat (.int .i64))]
abbrev R:Type:=DOut ia io
noncomputable def X (n:Nat):Ctx:=⟨⟨tab,[ydE.en n],0,[]⟩,19,bnOf 0 ia⟩
abbrev g1:List Si:=[.dat 0 (.slice yaG),.clo 1 (.fn 228) [],.dat 7 (.int .i64),.dat 8 (.int .i64)]
abbrev g2:List Si:=[]
noncomputable def T:CT:=(.s .o (.s (.s .o (.b (.l g1 .o))) (.r g2 .o)))
noncomputable def J1 (n:Nat)(m:Nat):(List (yai))×Int×Int×Unit→Option R:=jL (X n) n T (yaR Tryz.f251) (endK ia io) g1 [1,0,1,0] [] m
noncomputable def J2 (n:Nat):Unit→Option R:=jR (X n) n T (yaR Tryz.f251) (endK ia io) g2 [1,1] []
noncomputable def f (n:Nat)(s_:List (yai)):Option R:=fRun (X n) n T Tryz.f251 ia io (s_,())
theorem e0 (n:Nat)(s_:List (yai)):f n s_ =
  J1 n n (s_,((s_.length:Nat):Int),0,()):=(yah _).trans (by kernel_rfl)
theorem e1 (n m:Nat) (s_:List (yai)) (t7:Int) (t8:Int):J1 n (m+1) (s_,t7,t8,()) =
  bIf ((hide (decide (t8<t7)))) (
    gIf (0≤t8∧t8<((s_.length:Nat):Int)) (
      bnd (ydE.f n (List.getD s_ t8.toNat (Va.dflt yaG))) λu1=>
      bIf (u1.1) (
        some (t8,())
        ) (
        J1 n m (s_,t7,(IntKind.i64.wrap (t8+(1:Int))),())
        )
      )
    ) (
    J2 n (())
    ):=(yah _).trans (by kernel_rfl)
theorem e2 (n:Nat):J2 n (()) =
  some ((-1),()):=(yah _).trans (by kernel_rfl)
theorem phi (n:Nat):∀ e∈(X n).c.Φ,EntryOk Tryz.prog e:=yae (yac (ydE.ok n)) (yax)
theorem ok (n:Nat):FnOk Tryz.prog 251 ia io (fRun (X n) n T Tryz.f251 ia io):=yaH mixed tabIs (phi n) Tryz.func251 (by kernel_rfl) rfl
noncomputable def en (n:Nat):Entry:=yaD 251 ia io (fRun (X n) n T Tryz.f251 ia io)
end ybu
end Go.Proofs.YtdlkpmohjhjmfaaGreatDoor

namespace Go.Proofs.YtdlkpmohjhjmfaaGreatDoor
open Go Go.Va Go.Proofs
namespace yb8
abbrev ia:List Ai:=[.dat (.slice yaG),.fn (.fn 228) []]
abbrev io:List (Nat×Oi):=[(4,.dat .bool)]
abbrev R:Type:=DOut ia io
noncomputable def X (n:Nat):Ctx:=⟨⟨tab,[ybu.en n],0,[]⟩,9,bnOf 0 ia⟩
noncomputable def T:CT := .o
noncomputable def f (n:Nat)(s_:List (yai)):Option R:=fRun (X n) n T Tryz.f227 ia io (s_,())
theorem e0 (n:Nat)(s_:List (yai)):f n s_ =
  bnd (ybu.f n s_) λu1=>
  some ((hide (decide (u1.1≥(0:Int)))),()):=(yah _).trans (by kernel_rfl)
theorem phi (n:Nat):∀ e∈(X n).c.Φ,EntryOk Tryz.prog e:=yae (yac (ybu.ok n)) (yax)
theorem ok (n:Nat):FnOk Tryz.prog 227 ia io (fRun (X n) n T Tryz.f227 ia io):=yaH mixed tabIs (phi n) Tryz.func227 (by kernel_rfl) rfl
noncomputable def en (n:Nat):Entry:=yaD 227 ia io (fRun (X n) n T Tryz.f227 ia io)
end yb8
end Go.Proofs.YtdlkpmohjhjmfaaGreatDoor

namespace Go.Proofs.YtdlkpmohjhjmfaaGreatDoor
open Go Go.Va Go.Proofs
namespace ydJ
abbrev ia:List Ai:=[.dat (.slice yaG)]
abbrev io:List (Nat×Oi):=[(2,.dat .bool)]
abbrev R:Type:=DOut ia io
noncomputable def X (n:Nat):Ctx:=⟨⟨tab,[yb8.en n],0,[]⟩,11,bnOf 0 ia⟩
noncomputable def T:CT := .o
noncomputable def f (n:Nat)(list:List (yai)):Option R:=fRun (X n) n T Tryz.f182 ia io (list,())
theorem e0 (n:Nat)(list:List (yai)):f n list =
  bIf ((hide (decide (((list.length:Nat):Int)≤(8:Int))))) (
    bnd (yb8.f n list) λu1=>
    some ((!u1.1),())
    ) (
    some (false,())
    ):=(yah _).trans (by kernel_rfl)
theorem phi (n:Nat):∀ e∈(X n).c.Φ,EntryOk Tryz.prog e:=yae (yac (yb8.ok n)) (yax)
theorem ok (n:Nat):FnOk Tryz.prog 182 ia io (fRun (X n) n T Tryz.f182 ia io):=yaH mixed tabIs (phi n) Tryz.func182 (by kernel_rfl) rfl
noncomputable def en (n:Nat):Entry:=yaD 182 ia io (fRun (X n) n T Tryz.f182 ia io)
end ydJ
end Go.Proofs.YtdlkpmohjhjmfaaGreatDoor

namespace Go.Proofs.YtdlkpmohjhjmfaaGreatDoor
open Go Go.Va Go.Proofs
namespace ydp
abbrev ia:List Ai:=[.dat yaI]
abbrev io:List (Nat×Oi):=[(2,.dat .bool)]
abbrev R:Type:=DOut ia io
noncomputable def X (n:Nat):Ctx:=⟨⟨tab,[ydz.en n],0,[]⟩,19,bnOf 0 ia⟩
noncomputable def T:CT := .o
noncomputable def f (n:Nat)(g:yag):Option R:=fRun (X n) n T Tryz.f231 ia io (g,())
theorem e0 (n:Nat)(g:yag):f n g =
  bnd (ydz.f n g.2.1) λu1=>
  bIf ((!u1.1)) (
    some (true,())
    ) (
    bnd (ydz.f n g.2.2.1) λu2=>
    bIf ((!u2.1)) (
      some (true,())
      ) (
      bnd (ydz.f n g.2.2.2.1) λu3=>
      some ((!u3.1),())
      )
    ):=(yah _).trans (by kernel_rfl)
theorem phi (n:Nat):∀ e∈(X n).c.Φ,EntryOk Tryz.prog e:=yae (yac (ydz.ok n)) (yax)
theorem ok (n:Nat):FnOk Tryz.prog 231 ia io (fRun (X n) n T Tryz.f231 ia io):=yaH mixed tabIs (phi n) Tryz.func231 (by kernel_rfl) rfl
noncomputable def en (n:Nat):Entry:=yaD 231 ia io (fRun (X n) n T Tryz.f231 ia io)
end ydp
end Go.Proofs.YtdlkpmohjhjmfaaGreatDoor

namespace Go.Proofs.YtdlkpmohjhjmfaaGreatDoor
open Go Go.Va Go.Proofs
namespace ybq
abbrev ia:List Ai:=[.dat (.slice yaI),.fn (.fn 231) []]
abbrev io:List (Nat×Oi):=[(4,.dat (.int .i64))]
abbrev R:Type:=DOut ia io
noncomputable def X (n:Nat):Ctx:=⟨⟨tab,[ydp.en n],0,[]⟩,19,bnOf 0 ia⟩
abbrev g1:List Si:=[.dat 0 (.slice yaI),.clo 1 (.fn 231) [],.dat 7 (.int .i64),.dat 8 (.int .i64)]
abbrev g2:List Si:=[]
noncomputable def T:CT:=(.s .o (.s (.s .o (.b (.l g1 .o))) (.r g2 .o)))
noncomputable def J1 (n:Nat)(m:Nat):(List (yag))×Int×Int×Unit→Option R:=jL (X n) n T (yaR Tryz.f252) (endK ia io) g1 [1,0,1,0] [] m
noncomputable def J2 (n:Nat):Unit→Option R:=jR (X n) n T (yaR Tryz.f252) (endK ia io) g2 [1,1] []
noncomputable def f (n:Nat)(s_:List (yag)):Option R:=fRun (X n) n T Tryz.f252 ia io (s_,())
theorem e0 (n:Nat)(s_:List (yag)):f n s_ =
  J1 n n (s_,((s_.length:Nat):Int),0,()):=(yah _).trans (by kernel_rfl)
theorem e1 (n m:Nat) (s_:List (yag)) (t7:Int) (t8:Int):J1 n (m+1) (s_,t7,t8,()) =
  bIf ((hide (decide (t8<t7)))) (
    gIf (0≤t8∧t8<((s_.length:Nat):Int)) (
      bnd (ydp.f n (List.getD s_ t8.toNat (Va.dflt yaI))) λu1=>
      bIf (u1.1) (
        some (t8,())
        ) (
        J1 n m (s_,t7,(IntKind.i64.wrap (t8+(1:Int))),())
        )
      )
    ) (
    J2 n (())
    ):=(yah _).trans (by kernel_rfl)
theorem e2 (n:Nat):J2 n (()) =
  some ((-1),()):=(yah _).trans (by kernel_rfl)
theorem phi (n:Nat):∀ e∈(X n).c.Φ,EntryOk Tryz.prog e:=yae (yac (ydp.ok n)) (yax)
theorem ok (n:Nat):FnOk Tryz.prog 252 ia io (fRun (X n) n T Tryz.f252 ia io):=yaH mixed tabIs (phi n) Tryz.func252 (by kernel_rfl) rfl
noncomputable def en (n:Nat):Entry:=yaD 252 ia io (fRun (X n) n T Tryz.f252 ia io)
end ybq
end Go.Proofs.YtdlkpmohjhjmfaaGreatDoor

namespace Go.Proofs.YtdlkpmohjhjmfaaGreatDoor
open Go Go.Va Go.Proofs
namespace yb0
abbrev ia:List Ai:=[.dat (.slice yaI),.fn (.fn 231) []]
abbrev io:List (Nat×Oi):=[(4,.dat .bool)]
abbrev R:Type:=DOut ia io
noncomputable def X (n:Nat):Ctx:=⟨⟨tab,[ybq.en n],0,[]⟩,9,bnOf 0 ia⟩
noncomputable def T:CT := .o
noncomputable def f (n:Nat)(s_:List (yag)):Option R:=fRun (X n) n T Tryz.f230 ia io (s_,())
theorem e0 (n:Nat)(s_:List (yag)):f n s_ =
  bnd (ybq.f n s_) λu1=>
  some ((hide (decide (u1.1≥(0:Int)))),()):=(yah _).trans (by kernel_rfl)
theorem phi (n:Nat):∀ e∈(X n).c.Φ,EntryOk Tryz.prog e:=yae (yac (ybq.ok n)) (yax)
theorem ok (n:Nat):FnOk Tryz.prog 230 ia io (fRun (X n) n T Tryz.f230 ia io):=yaH mixed tabIs (phi n) Tryz.func230 (by kernel_rfl) rfl
noncomputable def en (n:Nat):Entry:=yaD 230 ia io (fRun (X n) n T Tryz.f230 ia io)
end yb0
end Go.Proofs.YtdlkpmohjhjmfaaGreatDoor

namespace Go.Proofs.YtdlkpmohjhjmfaaGreatDoor
open Go Go.Va Go.Proofs
namespace ydy
abbrev ia:List Ai:=[.dat (.slice yaI)]
abbrev io:List (Nat×Oi):=[(2,.dat .bool)]
abbrev R:Type:=DOut ia io
noncomputable def X (n:Nat):Ctx:=⟨⟨tab,[yb0.en n],0,[]⟩,11,bnOf 0 ia⟩
noncomputable def T:CT := .o
noncomputable def f (n:Nat)(list:List (yag)):Option R:=fRun (X n) n T Tryz.f183 ia io (list,())
theorem e0 (n:Nat)(list:List (yag)):f n list =
  bIf ((hide (decide (((list.length:Nat):Int)≤(8:Int))))) (
    bnd (yb0.f n list) λu1=>
    some ((!u1.1),())
    ) (
    some (false,())
    ):=(yah _).trans (by kernel_rfl)
theorem phi (n:Nat):∀ e∈(X n).c.Φ,EntryOk Tryz.prog e:=yae (yac (yb0.ok n)) (yax)
theorem ok (n:Nat):FnOk Tryz.prog 183 ia io (fRun (X n) n T Tryz.f183 ia io):=yaH mixed tabIs (phi n) Tryz.func183 (by kernel_rfl) rfl
noncomputable def en (n:Nat):Entry:=yaD 183 ia io (fRun (X n) n T Tryz.f183 ia io)
end ydy
end Go.Proofs.YtdlkpmohjhjmfaaGreatDoor

namespace Go.Proofs.YtdlkpmohjhjmfaaGreatDoor
open Go Go.Va Go.Proofs
namespace ycu
abbrev ia:List Ai:=[.dat .str]
abbrev io:List (Nat×Oi):=[(2,.dat .bool)]
abbrev R:Type:=DOut ia io
noncomputable def X (n:Nat):Ctx:=⟨⟨tab,[ycb.en,yew.en],0,[]⟩,30,bnOf 0 ia⟩
abbrev g1:List Si:=[.val 11 (.r 201100 .str),.dat 12 (.int .i64),.dat 13 (.int .i64)]
abbrev g2:List Si:=[]
noncomputable def T:CT:=(.s .o (.s .o (.s .o (.s (.s .o (.b (.l g1 .o))) (.r g2 .o)))))
noncomputable def J1 (n:Nat)(m:Nat):(List (ByteArray))×Int×Int×Unit→Option R:=jL (X n) n T (yaR Tryz.f178) (endK ia io) g1 [1,1,1,0,1,0] [] m
noncomputable def J2 (n:Nat):Unit→Option R:=jR (X n) n T (yaR Tryz.f178) (endK ia io) g2 [1,1,1,1] []
noncomputable def f (n:Nat)(s_:ByteArray):Option R:=fRun (X n) n T Tryz.f178 ia io (s_,())
theorem e0 (n:Nat)(s_:ByteArray):f n s_ =
  bnd (ycb.f s_ (⟨#[46]⟩:ByteArray)) λu1=>
  bIf ((hide (((u1.1.length:Nat):Int) != (4:Int)))) (
    some (false,())
    ) (
    J1 n n (u1.1,((u1.1.length:Nat):Int),0,())
    ):=(yah _).trans (by kernel_rfl)
theorem e1 (n m:Nat) (t11:List (ByteArray)) (t12:Int) (t13:Int):J1 n (m+1) (t11,t12,t13,()) =
  bIf ((hide (decide (t13<t12)))) (
    gIf (0≤t13∧t13<((t11.length:Nat):Int)) (
      bIf ((hide (eqS (List.getD t11 (0+t13.toNat) (⟨#[]⟩:ByteArray)) (⟨#[]⟩:ByteArray)))) (
        some (false,())
        ) (
        bIf ((hide (decide (((List.getD t11 (0+t13.toNat) (⟨#[]⟩:ByteArray)).size:Int)>(3:Int))))) (
          some (false,())
          ) (
          bnd (yew.f (List.getD t11 (0+t13.toNat) (⟨#[]⟩:ByteArray)) (⟨#[48,49,50,51,52,53,54,55,56,57]⟩:ByteArray)) λu1=>
          bIf ((hide (!eqS u1.1 (⟨#[]⟩:ByteArray)))) (
            some (false,())
            ) (
            J1 n m (t11,t12,(IntKind.i64.wrap (t13+(1:Int))),())
            )
          )
        )
      )
    ) (
    J2 n (())
    ):=(yah _).trans (by kernel_rfl)
theorem e2 (n:Nat):J2 n (()) =
  some (true,()):=(yah _).trans (by kernel_rfl)
theorem phi (n:Nat):∀ e∈(X n).c.Φ,EntryOk Tryz.prog e:=yae (yac (ycb.ok)) (yae (yac (yew.ok)) (yax))
theorem ok (n:Nat):FnOk Tryz.prog 178 ia io (fRun (X n) n T Tryz.f178 ia io):=yaH mixed tabIs (phi n) Tryz.func178 (by kernel_rfl) rfl
noncomputable def en (n:Nat):Entry:=yaD 178 ia io (fRun (X n) n T Tryz.f178 ia io)
end ycu
end Go.Proofs.YtdlkpmohjhjmfaaGreatDoor

namespace Go.Proofs.YtdlkpmohjhjmfaaGreatDoor
open Go Go.Va Go.Proofs
namespace ydM
abbrev ia:List Ai:=[.dat .str,.dat (.int .u8)]
abbrev io:List (Nat×Oi):=[(4,.dat .bool)]
abbrev R:Type:=DOut ia io
noncomputable def X (n:Nat):Ctx:=⟨⟨tab,[ybY.en],0,[]⟩,9,bnOf 0 ia⟩
noncomputable def T:CT := .o
noncomputable def f (n:Nat)(some_:ByteArray)(b:Int):Option R:=fRun (X n) n T Tryz.f179 ia io (some_,b,())
theorem e0 (n:Nat)(some_:ByteArray)(b:Int):f n some_ b =
  bnd (ybY.f some_ b) λu1=>
  some ((hide (decide (u1.1≥(0:Int)))),()):=(yah _).trans (by kernel_rfl)
theorem phi (n:Nat):∀ e∈(X n).c.Φ,EntryOk Tryz.prog e:=yae (yac (ybY.ok)) (yax)
theorem ok (n:Nat):FnOk Tryz.prog 179 ia io (fRun (X n) n T Tryz.f179 ia io):=yaH mixed tabIs (phi n) Tryz.func179 (by kernel_rfl) rfl
noncomputable def en (n:Nat):Entry:=yaD 179 ia io (fRun (X n) n T Tryz.f179 ia io)
end ydM
end Go.Proofs.YtdlkpmohjhjmfaaGreatDoor

namespace Go.Proofs.YtdlkpmohjhjmfaaGreatDoor
open Go Go.Va Go.Proofs
namespace ybM
abbrev ia:List Ai:=[.dat .str]
abbrev io:List (Nat×Oi):=[(2,.dat .bool)]
abbrev R:Type:=DOut ia io
noncomputable def X (n:Nat):Ctx:=⟨⟨tab,[ycu.en n,ydM.en n],0,[]⟩,68,bnOf 0 ia⟩
abbrev g1:List Si:=[.dat 0 .str]
abbrev g2:List Si:=[.dat 0 .str,.dat 18 (.int .i64),.dat 19 (.int .i64)]
abbrev g3:List Si:=[.dat 0 .str,.dat 3 (.int .i64),.dat 18 (.int .i64),.dat 19 (.int .i64)]
abbrev g4:List Si:=[]
noncomputable def T:CT:=(.s .o (.s .o (.r g1 (.s (.s .o (.b (.l g2 (.s .o (.s .o (.s (.b (.s .o (.s .o (.s .o (.r g3 .o))))) .o)))))) (.r g4 .o)))))
noncomputable def J1 (n:Nat):ByteArray×Unit→Option R:=jR (X n) n T (yaR Tryz.f131) (endK ia io) g1 [1,1] []
noncomputable def J2 (n:Nat)(m:Nat):ByteArray×Int×Int×Unit→Option R:=jL (X n) n T (yaR Tryz.f131) (endK ia io) g2 [1,1,0,1,0] [] m
noncomputable def J3 (n m2:Nat):ByteArray×Int×Int×Int×Unit→Option R:=jR (X n) n T (yaR Tryz.f131) (endK ia io) g3 [1,1,0,1,0,0,1,1,0,0,1,1,1] [m2]
noncomputable def J4 (n:Nat):Unit→Option R:=jR (X n) n T (yaR Tryz.f131) (endK ia io) g4 [1,1,1] []
noncomputable def f (n:Nat)(s_:ByteArray):Option R:=fRun (X n) n T Tryz.f131 ia io (s_,())
theorem e0 (n:Nat) (s_:ByteArray):f n s_ =
  bIf ((hide (decide ((s_.size:Int)<(3:Int))))) (
    some (false,())
    ) (
    bIf ((hide (decide ((s_.size:Int)>(63:Int))))) (
      some (false,())
      ) (
      bnd (ycu.f n s_) λu1=>
      bIf (u1.1) (
        some (false,())
        ) (
        J1 n (s_,())
        )
      )
    ):=(yah _).trans (by kernel_rfl)
theorem e1 (n:Nat)(s_:ByteArray):J1 n (s_,()) =
  J2 n n (s_,(s_.size:Int),0,()):=(yah _).trans (by kernel_rfl)
theorem e2 (n m : Nat) (s_:ByteArray) (t18:Int) (t19:Int):J2 n (m+1) (s_,t18,t19,()) =
  bIf ((hide (decide (t19<t18)))) (
    gIf (0≤t19∧t19<(s_.size:Int)) (
      bnd (ydM.f n (⟨#[97,98,99,100,101,102,103,104,105,106,107,108,109,110,111,112,113,114,115,116,117,118,119,120,121,122,48,49,50,51,52,53,54,55,56,57]⟩:ByteArray) (bt s_ t19)) λu1=>
      bIf (u1.1) (
        J2 n m (s_,t18,(IntKind.i64.wrap (t19+(1:Int))),())
        ) (
        gIf (0≤t19∧t19<(s_.size:Int)) (
          bIf ((hide ((bt s_ t19) != (45:Int)))) (
            gIf (0≤t19∧t19<(s_.size:Int)) (
              bIf ((hide ((bt s_ t19) != (46:Int)))) (
                some (false,())
                ) (
                bIf ((hide (t19==(0:Int)))) (
                  some (false,())
                  ) (
                  bIf ((hide (t19==(IntKind.i64.wrap ((s_.size:Int)-(1:Int)))))) (
                    some (false,())
                    ) (
                    J3 n m (s_,t19,t18,t19,())
                    )
                  )
                )
              )
            ) (
            bIf ((hide (t19==(0:Int)))) (
              some (false,())
              ) (
              bIf ((hide (t19==(IntKind.i64.wrap ((s_.size:Int)-(1:Int)))))) (
                some (false,())
                ) (
                J3 n m (s_,t19,t18,t19,())
                )
              )
            )
          )
        )
      )
    ) (
    J4 n (())
    ):=(yah _).trans (by kernel_rfl)
theorem e3 (n m2:Nat) (s_:ByteArray) (i:Int) (t18:Int) (t19:Int):J3 n m2 (s_,i,t18,t19,()) =
  gIf (0≤(IntKind.i64.wrap (i+(1:Int)))∧(IntKind.i64.wrap (i+(1:Int)))<(s_.size:Int)) (
    bIf ((hide ((bt s_ (IntKind.i64.wrap (i+(1:Int))))==(46:Int)))) (
      gIf (0≤i∧i<(s_.size:Int)) (
        bIf ((hide ((bt s_ i)==(46:Int)))) (
          some (false,())
          ) (
          bIf ((hide ((bt s_ (IntKind.i64.wrap (i+(1:Int))))==(46:Int)))) (
            some (false,())
            ) (
            J2 n m2 (s_,t18,(IntKind.i64.wrap (t19+(1:Int))),())
            )
          )
        )
      ) (
      bIf ((hide ((bt s_ (IntKind.i64.wrap (i+(1:Int))))==(45:Int)))) (
        gIf (0≤i∧i<(s_.size:Int)) (
          bIf ((hide ((bt s_ i)==(46:Int)))) (
            some (false,())
            ) (
            bIf ((hide ((bt s_ (IntKind.i64.wrap (i+(1:Int))))==(46:Int)))) (
              some (false,())
              ) (
              J2 n m2 (s_,t18,(IntKind.i64.wrap (t19+(1:Int))),())
              )
            )
          )
        ) (
        J2 n m2 (s_,t18,(IntKind.i64.wrap (t19+(1:Int))),())
        )
      )
    ):=(yah _).trans (by kernel_rfl)
theorem e4 (n:Nat):J4 n (()) =
  some (true,()):=(yah _).trans (by kernel_rfl)
theorem phi (n:Nat):∀ e∈(X n).c.Φ,EntryOk Tryz.prog e:=yae (yac (ycu.ok n)) (yae (yac (ydM.ok n)) (yax))
theorem ok (n:Nat):FnOk Tryz.prog 131 ia io (fRun (X n) n T Tryz.f131 ia io):=yaH mixed tabIs (phi n) Tryz.func131 (by kernel_rfl) rfl
noncomputable def en (n:Nat):Entry:=yaD 131 ia io (fRun (X n) n T Tryz.f131 ia io)
end ybM
end Go.Proofs.YtdlkpmohjhjmfaaGreatDoor

namespace Go.Proofs.YtdlkpmohjhjmfaaGreatDoor
open Go Go.Va Go.Proofs
namespace ybX
abbrev ia:List Ai:=[.dat (.slice yaI),.dat (.slice yaI)]
abbrev io:List (Nat×Oi):=[(4,.dat .bool)]
abbrev R:Type:=DOut ia io
noncomputable def X (n:Nat):Ctx:=⟨⟨tab,[],0,[]⟩,26,bnOf 0 ia⟩
abbrev g1:List Si:=[.dat 0 (.slice yaI),.dat 1 (.slice yaI),.dat 5 (.int .i64)]
abbrev g2:List Si:=[]
noncomputable def T:CT:=(.s .o (.s .o (.s (.s .o (.b (.l g1 .o))) (.r g2 .o))))
noncomputable def J1 (n:Nat)(m:Nat):(List (yag))×(List (yag))×Int×Unit→Option R:=jL (X n) n T (yaR Tryz.f104) (endK ia io) g1 [1,1,0,1,0] [] m
noncomputable def J2 (n:Nat):Unit→Option R:=jR (X n) n T (yaR Tryz.f104) (endK ia io) g2 [1,1,1] []
noncomputable def f (n:Nat)(a:List (yag))(b:List (yag)):Option R:=fRun (X n) n T Tryz.f104 ia io (a,b,())
theorem e0 (n:Nat)(a:List (yag))(b:List (yag)):f n a b =
  bIf ((hide (((a.length:Nat):Int) != ((b.length:Nat):Int)))) (
    some (false,())
    ) (
    J1 n n (a,b,0,())
    ):=(yah _).trans (by kernel_rfl)
theorem e1 (n m:Nat) (a:List (yag)) (b:List (yag)) (i:Int):J1 n (m+1) (a,b,i,()) =
  bIf ((hide (decide (i<((a.length:Nat):Int))))) (
    gIf (0≤i∧i<((a.length:Nat):Int)) (
      gIf (0≤i∧i<((b.length:Nat):Int)) (
        bIf ((hide (!(eqD yaI (List.getD a i.toNat (Va.dflt yaI)) (List.getD b i.toNat (Va.dflt yaI)))))) (
          some (false,())
          ) (
          J1 n m (a,b,(IntKind.i64.wrap (i+(1:Int))),())
          )
        )
      )
    ) (
    J2 n (())
    ):=(yah _).trans (by kernel_rfl)
theorem e2 (n:Nat):J2 n (()) =
  some (true,()):=(yah _).trans (by kernel_rfl)
theorem phi (n:Nat):∀ e∈(X n).c.Φ,EntryOk Tryz.prog e:=yax
theorem ok (n:Nat):FnOk Tryz.prog 104 ia io (fRun (X n) n T Tryz.f104 ia io):=yaH mixed tabIs (phi n) Tryz.func104 (by kernel_rfl) rfl
noncomputable def en (n:Nat):Entry:=yaD 104 ia io (fRun (X n) n T Tryz.f104 ia io)
end ybX
end Go.Proofs.YtdlkpmohjhjmfaaGreatDoor

namespace Go.Proofs.YtdlkpmohjhjmfaaGreatDoor
open Go Go.Va Go.Proofs
namespace ybU
abbrev ia:List Ai:=[.dat (.slice yaG),.dat (.slice yaG)]
abbrev io:List (Nat×Oi):=[(4,.dat .bool)]
abbrev R:Type:=DOut ia io
noncomputable def X (n:Nat):Ctx:=⟨⟨tab,[yb5.en n],0,[]⟩,81,bnOf 0 ia⟩
abbrev g1:List Si:=[.dat 0 (.slice yaG),.dat 1 (.slice yaG),.dat 5 (.int .i64)]
abbrev g2:List Si:=[.dat 0 (.slice yaG),.dat 1 (.slice yaG),.dat 5 (.int .i64)]
abbrev g3:List Si:=[]
noncomputable def T:CT:=(.s .o (.s .o (.s (.s .o (.b (.l g1 (.s .o (.s .o (.r g2 .o)))))) (.r g3 .o))))
noncomputable def J1 (n:Nat)(m:Nat):(List (yai))×(List (yai))×Int×Unit→Option R:=jL (X n) n T (yaR Tryz.f103) (endK ia io) g1 [1,1,0,1,0] [] m
noncomputable def J2 (n m1:Nat):(List (yai))×(List (yai))×Int×Unit→Option R:=jR (X n) n T (yaR Tryz.f103) (endK ia io) g2 [1,1,0,1,0,0,1,1] [m1]
noncomputable def J3 (n:Nat):Unit→Option R:=jR (X n) n T (yaR Tryz.f103) (endK ia io) g3 [1,1,1] []
noncomputable def f (n:Nat)(a:List (yai))(b:List (yai)):Option R:=fRun (X n) n T Tryz.f103 ia io (a,b,())
theorem e0 (n:Nat)(a:List (yai))(b:List (yai)):f n a b =
  bIf ((hide (((a.length:Nat):Int) != ((b.length:Nat):Int)))) (
    some (false,())
    ) (
    J1 n n (a,b,0,())
    ):=(yah _).trans (by kernel_rfl)
theorem e1 (n m : Nat) (a : List (yai)) (b:List (yai)) (i:Int):J1 n (m+1) (a,b,i,()) =
  bIf ((hide (decide (i < ((a.length:Nat):Int))))) (
    gIf (0 ≤ i ∧ i < ((a.length : Nat):Int)) (
      gIf (0 ≤ i ∧ i < ((b.length : Nat):Int)) (
        bIf ((hide (!eqS ((List.getD a i.toNat (Va.dflt yaG)).1) ((List.getD b i.toNat (Va.dflt yaG)).1)))) (
          some (false,())
          ) (
          gIf (0≤i∧i<((a.length:Nat):Int)) (
            gIf (0≤i∧i<((b.length:Nat):Int)) (
              bnd (yb5.f n (((List.getD a i.toNat (Va.dflt yaG)).2).1) (((List.getD b i.toNat (Va.dflt yaG)).2).1)) λu1=>
              bIf ((!u1.1)) (
                some (false,())
                ) (
                gIf (0≤i∧i<((a.length:Nat):Int)) (
                  gIf (0≤i∧i<((b.length:Nat):Int)) (
                    bIf ((hide (((((List.getD a i.toNat (Va.dflt yaG)).2).2).1) != ((((List.getD b i.toNat (Va.dflt yaG)).2).2).1)))) (
                      some (false,())
                      ) (
                      gIf (0≤i∧i<((a.length:Nat):Int)) (
                        gIf (0≤i∧i<((b.length:Nat):Int)) (
                          bIf ((hide ((((((List.getD a i.toNat (Va.dflt yaG)).2).2).2).1) != (((((List.getD b i.toNat (Va.dflt yaG)).2).2).2).1)))) (
                            some (false,())
                            ) (
                            gIf (0≤i∧i<((a.length:Nat):Int)) (
                              gIf (0≤i∧i<((b.length:Nat):Int)) (
                                bIf ((hide (!(((((((List.getD a i.toNat (Va.dflt yaG)).2).2).2).2).1)==((((((List.getD b i.toNat (Va.dflt yaG)).2).2).2).2).1))))) (
                                  some (false,())
                                  ) (
                                  J2 n m (a,b,i,())
                                  )
                                )
                              )
                            )
                          )
                        )
                      )
                    )
                  )
                )
              )
            )
          )
        )
      )
    ) (
    J3 n (())
    ):=(yah _).trans (by kernel_rfl)
theorem e2 (n m1:Nat)(a:List (yai))(b:List (yai))(i:Int):J2 n m1 (a,b,i,()) =
  J1 n m1 (a,b,(IntKind.i64.wrap (i+(1:Int))),()):=(yah _).trans (by kernel_rfl)
theorem e3 (n:Nat):J3 n (()) =
  some (true,()):=(yah _).trans (by kernel_rfl)
theorem phi (n:Nat):∀ e∈(X n).c.Φ,EntryOk Tryz.prog e:=yae (yac (yb5.ok n)) (yax)
theorem ok (n:Nat):FnOk Tryz.prog 103 ia io (fRun (X n) n T Tryz.f103 ia io):=yaH mixed tabIs (phi n) Tryz.func103 (by kernel_rfl) rfl
noncomputable def en (n:Nat):Entry:=yaD 103 ia io (fRun (X n) n T Tryz.f103 ia io)
end ybU
end Go.Proofs.YtdlkpmohjhjmfaaGreatDoor

namespace Go.Proofs.YtdlkpmohjhjmfaaGreatDoor
open Go Go.Va Go.Proofs
namespace ydk
abbrev ia:List Ai:=[.dat yei,.dat yei]
abbrev io:List (Nat×Oi):=[(4,.dat .bool)]
abbrev R:Type:=DOut ia io
noncomputable def X (n:Nat):Ctx:=⟨⟨tab,[ycg.en n,yb5.en n,ybU.en n,ybX.en n],0,[]⟩,85,bnOf 0 ia⟩
abbrev g1:List Si:=[.ref 2 2 yei,.ref 3 3 yei,.box 2 (.d yei),.box 3 (.d yei)]
noncomputable def T:CT:=(.s .o (.s .o (.r g1 .o)))
noncomputable def J1 (n:Nat):ydY×ydY×Unit→Option R:=jR (X n) n T (yaR Tryz.f54) (endK ia io) g1 [1,1] []
noncomputable def f (n:Nat)(a:ydY)(b:ydY):Option R:=fRun (X n) n T Tryz.f54 ia io (a,b,())
theorem e0 (n : Nat) (a:ydY) (b:ydY):f n a b =
  bIf ((hide (a.1 != b.1))) (
    some (false,())
    ) (
    bIf ((hide (a.2.1 != b.2.1))) (
      some (false,())
      ) (
      bIf ((hide (!eqS a.2.2.1 b.2.2.1))) (
        some (false,())
        ) (
        bIf ((hide (!eqS a.2.2.2.1 b.2.2.2.1))) (
          some (false,())
          ) (
          bIf ((hide (a.2.2.2.2.1 != b.2.2.2.2.1))) (
            some (false,())
            ) (
            bIf ((hide (!(eqD yaK a.2.2.2.2.2.2.1 b.2.2.2.2.2.2.1)))) (
              some (false,())
              ) (
              bIf ((hide (!(eqD yaz a.2.2.2.2.2.2.2.2.1 b.2.2.2.2.2.2.2.2.1)))) (
                some (false,())
                ) (
                bIf ((hide (!(eqD T_api_Part a.2.2.2.2.2.2.2.2.2.2.2.1 b.2.2.2.2.2.2.2.2.2.2.2.1)))) (
                  some (false,())
                  ) (
                  J1 n (a,b,())
                  )
                )
              )
            )
          )
        )
      )
    ):=(yah _).trans (by kernel_rfl)
theorem e1 (n:Nat) (a:ydY) (b:ydY):J1 n (a,b,()) =
  bnd (ycg.f n a.2.2.2.2.2.1 b.2.2.2.2.2.1) λu1=>
  bIf (u1.1) (
    bnd (yb5.f n a.2.2.2.2.2.2.2.1 b.2.2.2.2.2.2.2.1) λu2=>
    bIf (u2.1) (
      bnd (ybU.f n a.2.2.2.2.2.2.2.2.2.1 b.2.2.2.2.2.2.2.2.2.1) λu3=>
      bIf (u3.1) (
        bnd (ybX.f n a.2.2.2.2.2.2.2.2.2.2.1 b.2.2.2.2.2.2.2.2.2.2.1) λu4=>
        some (u4.1,())
        ) (
        some (false,())
        )
      ) (
      some (false,())
      )
    ) (
    some (false,())
    ):=(yah _).trans (by kernel_rfl)
theorem phi (n:Nat):∀ e∈(X n).c.Φ,EntryOk Tryz.prog e:=yae (yac (ycg.ok n)) (yae (yac (yb5.ok n)) (yae (yac (ybU.ok n)) (yae (yac (ybX.ok n)) (yax))))
theorem ok (n:Nat):FnOk Tryz.prog 54 ia io (fRun (X n) n T Tryz.f54 ia io):=yaH mixed tabIs (phi n) Tryz.func54 (by kernel_rfl) rfl
noncomputable def en (n:Nat):Entry:=yaD 54 ia io (fRun (X n) n T Tryz.f54 ia io)
end ydk
end Go.Proofs.YtdlkpmohjhjmfaaGreatDoor

namespace Go.Proofs.YtdlkpmohjhjmfaaGreatDoor
open Go Go.Va Go.Proofs
namespace yc9
abbrev ia:List Ai:=[.dat yaG,.dat yaG]
abbrev io:List (Nat×Oi):=[(4,.dat .bool)]
abbrev R:Type:=DOut ia io
noncomputable def X (n:Nat):Ctx:=⟨⟨tab,[ycJ.en n],0,[]⟩,38,bnOf 0 ia⟩
noncomputable def T:CT := .o
noncomputable def f (n:Nat)(a:yai)(b:yai):Option R:=fRun (X n) n T Tryz.f196 ia io (a,b,())
theorem e0 (n:Nat) (a:yai) (b:yai):f n a b =
  bIf ((hide (eqS a.1 b.1))) (
    bIf ((hide (a.2.2.1==b.2.2.1))) (
      bIf ((hide (a.2.2.2.1==b.2.2.2.1))) (
        bIf ((hide (a.2.2.2.2.1==b.2.2.2.2.1))) (
          bnd (ycJ.f n a.2.1 b.2.1) λu1=>
          some (u1.1,())
          ) (
          some (false,())
          )
        ) (
        some (false,())
        )
      ) (
      some (false,())
      )
    ) (
    some (false,())
    ):=(yah _).trans (by kernel_rfl)
theorem phi (n:Nat):∀ e∈(X n).c.Φ,EntryOk Tryz.prog e:=yae (yac (ycJ.ok n)) (yax)
theorem ok (n:Nat):FnOk Tryz.prog 196 ia io (fRun (X n) n T Tryz.f196 ia io):=yaH mixed tabIs (phi n) Tryz.func196 (by kernel_rfl) rfl
noncomputable def en (n:Nat):Entry:=yaD 196 ia io (fRun (X n) n T Tryz.f196 ia io)
end yc9
end Go.Proofs.YtdlkpmohjhjmfaaGreatDoor

namespace Go.Proofs.YtdlkpmohjhjmfaaGreatDoor
open Go Go.Va Go.Proofs
namespace ybx
abbrev ia:List Ai:=[.dat (.slice yaG),.dat (.slice yaG),.fn (.fn 196) []]
abbrev io:List (Nat×Oi):=[(6,.dat .bool)]
abbrev R:Type:=DOut ia io
noncomputable def X (n:Nat):Ctx:=⟨⟨tab,[yc9.en n],0,[]⟩,32,bnOf 0 ia⟩
abbrev g1:List Si:=[.dat 1 (.slice yaG),.clo 2 (.fn 196) [],.dat 15 (.slice yaG),.dat 16 (.int .i64),.dat 17 (.int .i64)]
abbrev g2:List Si:=[]
noncomputable def T:CT:=(.s .o (.s .o (.s (.s .o (.b (.l g1 .o))) (.r g2 .o))))
noncomputable def J1 (n:Nat)(m:Nat):(List (yai))×(List (yai))×Int×Int×Unit→Option R:=jL (X n) n T (yaR Tryz.f195) (endK ia io) g1 [1,1,0,1,0] [] m
noncomputable def J2 (n:Nat):Unit→Option R:=jR (X n) n T (yaR Tryz.f195) (endK ia io) g2 [1,1,1] []
noncomputable def f (n:Nat)(s1:List (yai))(s2:List (yai)):Option R:=fRun (X n) n T Tryz.f195 ia io (s1,s2,())
theorem e0 (n:Nat)(s1:List (yai))(s2:List (yai)):f n s1 s2 =
  bIf ((hide (((s1.length:Nat):Int) != ((s2.length:Nat):Int)))) (
    some (false,())
    ) (
    J1 n n (s2,s1,((s1.length:Nat):Int),0,())
    ):=(yah _).trans (by kernel_rfl)
theorem e1 (n m:Nat) (s2:List (yai)) (t15:List (yai)) (t16:Int) (t17:Int):J1 n (m+1) (s2,t15,t16,t17,()) =
  bIf ((hide (decide (t17<t16)))) (
    gIf (0≤t17∧t17<((t15.length:Nat):Int)) (
      gIf (0≤t17∧t17<((s2.length:Nat):Int)) (
        bnd (yc9.f n (List.getD t15 t17.toNat (Va.dflt yaG)) (List.getD s2 t17.toNat (Va.dflt yaG))) λu1=>
        bIf ((!u1.1)) (
          some (false,())
          ) (
          J1 n m (s2,t15,t16,(IntKind.i64.wrap (t17+(1:Int))),())
          )
        )
      )
    ) (
    J2 n (())
    ):=(yah _).trans (by kernel_rfl)
theorem e2 (n:Nat):J2 n (()) =
  some (true,()):=(yah _).trans (by kernel_rfl)
theorem phi (n:Nat):∀ e∈(X n).c.Φ,EntryOk Tryz.prog e:=yae (yac (yc9.ok n)) (yax)
theorem ok (n:Nat):FnOk Tryz.prog 195 ia io (fRun (X n) n T Tryz.f195 ia io):=yaH mixed tabIs (phi n) Tryz.func195 (by kernel_rfl) rfl
noncomputable def en (n:Nat):Entry:=yaD 195 ia io (fRun (X n) n T Tryz.f195 ia io)
end ybx
end Go.Proofs.YtdlkpmohjhjmfaaGreatDoor

namespace Go.Proofs.YtdlkpmohjhjmfaaGreatDoor
open Go Go.Va Go.Proofs
namespace ycY
abbrev ia:List Ai:=[.dat (.slice yaG),.dat (.slice yaG)]
abbrev io:List (Nat×Oi):=[(4,.dat .bool)]
abbrev R:Type:=DOut ia io
noncomputable def X (n:Nat):Ctx:=⟨⟨tab,[ybx.en n],0,[]⟩,8,bnOf 0 ia⟩
noncomputable def T:CT := .o
noncomputable def f (n:Nat)(a:List (yai))(b:List (yai)):Option R:=fRun (X n) n T Tryz.f140 ia io (a,b,())
theorem e0 (n:Nat)(a:List (yai))(b:List (yai)):f n a b =
  bnd (ybx.f n a b) λu1=>
  some (u1.1,()):=(yah _).trans (by kernel_rfl)
theorem phi (n:Nat):∀ e∈(X n).c.Φ,EntryOk Tryz.prog e:=yae (yac (ybx.ok n)) (yax)
theorem ok (n:Nat):FnOk Tryz.prog 140 ia io (fRun (X n) n T Tryz.f140 ia io):=yaH mixed tabIs (phi n) Tryz.func140 (by kernel_rfl) rfl
noncomputable def en (n:Nat):Entry:=yaD 140 ia io (fRun (X n) n T Tryz.f140 ia io)
end ycY
end Go.Proofs.YtdlkpmohjhjmfaaGreatDoor

namespace Go.Proofs.YtdlkpmohjhjmfaaGreatDoor
open Go Go.Va Go.Proofs
namespace ybH
abbrev ia:List Ai:=[.dat (.slice yaI),.dat (.slice yaI)]
abbrev io:List (Nat×Oi):=[(4,.dat .bool)]
abbrev R:Type:=DOut ia io
noncomputable def X (n:Nat):Ctx:=⟨⟨tab,[],0,[]⟩,26,bnOf 0 ia⟩
abbrev g1:List Si:=[.dat 0 (.slice yaI),.dat 1 (.slice yaI),.dat 12 (.int .i64),.dat 13 (.int .i64)]
abbrev g2:List Si:=[]
noncomputable def T:CT:=(.s .o (.s .o (.s (.s .o (.b (.l g1 .o))) (.r g2 .o))))
noncomputable def J1 (n:Nat)(m:Nat):(List (yag))×(List (yag))×Int×Int×Unit→Option R:=jL (X n) n T (yaR Tryz.f141) (endK ia io) g1 [1,1,0,1,0] [] m
noncomputable def J2 (n:Nat):Unit→Option R:=jR (X n) n T (yaR Tryz.f141) (endK ia io) g2 [1,1,1] []
noncomputable def f (n:Nat)(s1:List (yag))(s2:List (yag)):Option R:=fRun (X n) n T Tryz.f141 ia io (s1,s2,())
theorem e0 (n:Nat)(s1:List (yag))(s2:List (yag)):f n s1 s2 =
  bIf ((hide (((s1.length:Nat):Int) != ((s2.length:Nat):Int)))) (
    some (false,())
    ) (
    J1 n n (s1,s2,((s1.length:Nat):Int),0,())
    ):=(yah _).trans (by kernel_rfl)
theorem e1 (n m:Nat) (s1:List (yag)) (s2:List (yag)) (t12:Int) (t13:Int):J1 n (m+1) (s1,s2,t12,t13,()) =
  bIf ((hide (decide (t13<t12)))) (
    gIf (0≤t13∧t13<((s1.length:Nat):Int)) (
      gIf (0≤t13∧t13<((s2.length:Nat):Int)) (
        bIf ((hide (!(eqD yaI (List.getD s1 t13.toNat (Va.dflt yaI)) (List.getD s2 t13.toNat (Va.dflt yaI)))))) (
          some (false,())
          ) (
          J1 n m (s1,s2,t12,(IntKind.i64.wrap (t13+(1:Int))),())
          )
        )
      )
    ) (
    J2 n (())
    ):=(yah _).trans (by kernel_rfl)
theorem e2 (n:Nat):J2 n (()) =
  some (true,()):=(yah _).trans (by kernel_rfl)
theorem phi (n:Nat):∀ e∈(X n).c.Φ,EntryOk Tryz.prog e:=yax
theorem ok (n:Nat):FnOk Tryz.prog 141 ia io (fRun (X n) n T Tryz.f141 ia io):=yaH mixed tabIs (phi n) Tryz.func141 (by kernel_rfl) rfl
noncomputable def en (n:Nat):Entry:=yaD 141 ia io (fRun (X n) n T Tryz.f141 ia io)
end ybH
end Go.Proofs.YtdlkpmohjhjmfaaGreatDoor

namespace Go.Proofs.YtdlkpmohjhjmfaaGreatDoor
open Go Go.Va Go.Proofs
namespace ycX
abbrev ia:List Ai:=[.dat (.int .u64)]
abbrev io:List (Nat×Oi):=[(2,.val (.r 0 (.int .u8)))]
abbrev R:Type:=DOut ia io
noncomputable def X (n:Nat):Ctx:=⟨⟨tab,[],0,[]⟩,19,bnOf 0 ia⟩
abbrev g1:List Si:=[.dat 0 (.int .u64),.val 3 (.r 200300 (.int .u8))]
abbrev g2:List Si:=[.dat 0 (.int .u64),.val 3 (.r 200300 (.int .u8))]
noncomputable def T:CT:=(.s .o (.s .o (.s (.b (.l g1 .o)) (.r g2 .o))))
noncomputable def J1 (n:Nat)(m:Nat):Int×(List (Int))×Unit→Option R:=jL (X n) n T (yaR Tryz.f118) (endK ia io) g1 [1,1,0,0] [] m
noncomputable def J2 (n:Nat):Int×(List (Int))×Unit→Option R:=jR (X n) n T (yaR Tryz.f118) (endK ia io) g2 [1,1,1] []
noncomputable def f (n:Nat)(n_:Int):Option R:=fRun (X n) n T Tryz.f118 ia io (n_,())
theorem e0 (n:Nat)(n_:Int):f n n_ =
  J1 n n (n_,[],()):=(yah _).trans (by kernel_rfl)
theorem e1 (n m:Nat) (n_:Int) (out:List (Int)):J1 n (m+1) (n_,out,()) =
  bIf ((hide (decide (n_≥(128:Int))))) (
    gIf ((out.length+1)*1≤70368744177664) (
      gNo ((7:Int)<0) (
        J1 n m ((shrI .u64 n_ 7),(out++([(bitI .or .u8 (IntKind.u8.wrap n_) 128)]:List (Int))),())
        )
      )
    ) (
    J2 n (n_,out,())
    ):=(yah _).trans (by kernel_rfl)
theorem e2 (n:Nat)(n_:Int)(out:List (Int)):J2 n (n_,out,()) =
  gIf ((out.length+1)*1≤70368744177664) (
    some ((out++([(IntKind.u8.wrap n_)]:List (Int))),())
    ):=(yah _).trans (by kernel_rfl)
theorem phi (n:Nat):∀ e∈(X n).c.Φ,EntryOk Tryz.prog e:=yax
theorem ok (n:Nat):FnOk Tryz.prog 118 ia io (fRun (X n) n T Tryz.f118 ia io):=yaH mixed tabIs (phi n) Tryz.func118 (by kernel_rfl) rfl
noncomputable def en (n:Nat):Entry:=yaD 118 ia io (fRun (X n) n T Tryz.f118 ia io)
end ycX
end Go.Proofs.YtdlkpmohjhjmfaaGreatDoor

namespace Go.Proofs.YtdlkpmohjhjmfaaGreatDoor
open Go Go.Va Go.Proofs
namespace yeG
abbrev ia:List Ai:=[.dat (.int .i64)]
abbrev io:List (Nat×Oi):=[(2,.dat (.int .u64))]
abbrev R:Type:=DOut ia io
noncomputable def X (n:Nat):Ctx:=⟨⟨tab,[],0,[]⟩,10,bnOf 0 ia⟩
noncomputable def T:CT := .o
noncomputable def f (n:Nat)(n_:Int):Option R:=fRun (X n) n T Tryz.f176 ia io (n_,())
theorem e0 (n:Nat)(n_:Int):f n n_ =
  gNo ((1:Int)<0) (
    gNo ((63:Int)<0) (
      some ((bitI .xor .u64 (shlI .u64 (IntKind.u64.wrap n_) 1) (IntKind.u64.wrap (shrI .i64 n_ 63))),())
      )
    ):=(yah _).trans (by kernel_rfl)
theorem phi (n:Nat):∀ e∈(X n).c.Φ,EntryOk Tryz.prog e:=yax
theorem ok (n:Nat):FnOk Tryz.prog 176 ia io (fRun (X n) n T Tryz.f176 ia io):=yaH mixed tabIs (phi n) Tryz.func176 (by kernel_rfl) rfl
noncomputable def en (n:Nat):Entry:=yaD 176 ia io (fRun (X n) n T Tryz.f176 ia io)
end yeG
end Go.Proofs.YtdlkpmohjhjmfaaGreatDoor

namespace Go.Proofs.YtdlkpmohjhjmfaaGreatDoor
open Go Go.Va Go.Proofs
namespace ybg
abbrev ia:List Ai:=[.dat (.slice (.int .u8)),.dat (.slice (.int .u8))]
abbrev io:List (Nat×Oi):=[(4,.dat .bool)]
abbrev R:Type:=DOut ia io
noncomputable def X (n:Nat):Ctx:=⟨⟨tab,[],0,[]⟩,10,bnOf 0 ia⟩
noncomputable def T:CT := .o
noncomputable def f (n:Nat)(a:List (Int))(b:List (Int)):Option R:=fRun (X n) n T Tryz.f138 ia io (a,b,())
theorem e0 (n:Nat)(a:List (Int))(b:List (Int)):f n a b =
  some ((hide (eqS (ybp a) (ybp b))),()):=(yah _).trans (by kernel_rfl)
theorem phi (n:Nat):∀ e∈(X n).c.Φ,EntryOk Tryz.prog e:=yax
theorem ok (n:Nat):FnOk Tryz.prog 138 ia io (fRun (X n) n T Tryz.f138 ia io):=yaH mixed tabIs (phi n) Tryz.func138 (by kernel_rfl) rfl
noncomputable def en (n:Nat):Entry:=yaD 138 ia io (fRun (X n) n T Tryz.f138 ia io)
end ybg
end Go.Proofs.YtdlkpmohjhjmfaaGreatDoor

namespace Go.Proofs.YtdlkpmohjhjmfaaGreatDoor
open Go Go.Va Go.Proofs
namespace ybn
abbrev ia:List Ai:=[.dat (.slice (.int .u8))]
abbrev io:List (Nat×Oi):=[(2,.dat (.int .u64)),(3,.dat (.int .i64)),(4,.dat (.int .i64))]
abbrev R:Type:=DOut ia io
noncomputable def X (n:Nat):Ctx:=⟨⟨tab,[ycX.en n,ybg.en n],0,[]⟩,44,bnOf 0 ia⟩
abbrev g1:List Si:=[.dat 0 (.slice (.int .u8)),.dat 2 (.int .u64),.dat 7 (.slice (.int .u8)),.dat 8 (.int .i64),.dat 9 (.int .i64)]
abbrev g2:List Si:=[.dat 0 (.slice (.int .u8)),.dat 2 (.int .u64),.dat 5 (.int .i64),.dat 6 (.int .u8),.dat 7 (.slice (.int .u8)),.dat 8 (.int .i64),.dat 9 (.int .i64),.dat 19 .bool]
abbrev g3:List Si:=[.dat 0 (.slice (.int .u8)),.dat 2 (.int .u64),.dat 5 (.int .i64),.dat 6 (.int .u8),.dat 7 (.slice (.int .u8)),.dat 8 (.int .i64),.dat 9 (.int .i64)]
abbrev g4:List Si:=[]
noncomputable def T:CT:=(.s .o (.s (.s .o (.b (.l g1 (.s .o (.s .o (.s (.b (.s .o (.s (.s .o (.r g2 .o)) (.r g3 .o)))) .o)))))) (.r g4 .o)))
noncomputable def J1 (n:Nat)(m:Nat):(List (Int))×Int×(List (Int))×Int×Int×Unit→Option R:=jL (X n) n T (yaR Tryz.f238) (endK ia io) g1 [1,0,1,0] [] m
noncomputable def J2 (n m1:Nat):(List (Int))×Int×Int×Int×(List (Int))×Int×Int×Bool×Unit→Option R:=jR (X n) n T (yaR Tryz.f238) (endK ia io) g2 [1,0,1,0,0,1,1,0,0,1,0,1] [m1]
noncomputable def J3 (n m1:Nat):(List (Int))×Int×Int×Int×(List (Int))×Int×Int×Unit→Option R:=jR (X n) n T (yaR Tryz.f238) (endK ia io) g3 [1,0,1,0,0,1,1,0,0,1,1] [m1]
noncomputable def J4 (n:Nat):Unit→Option R:=jR (X n) n T (yaR Tryz.f238) (endK ia io) g4 [1,1] []
noncomputable def f (n:Nat)(b:List (Int)):Option R:=fRun (X n) n T Tryz.f238 ia io (b,())
theorem e0 (n:Nat)(b:List (Int)):f n b =
  J1 n n (b,0,b,((b.length:Nat):Int),0,()):=(yah _).trans (by kernel_rfl)
theorem e1 (n m:Nat) (b:List (Int)) (n_:Int) (t7:List (Int)) (t8:Int) (t9:Int):J1 n (m+1) (b,n_,t7,t8,t9,()) =
  bIf ((hide (decide (t9<t8)))) (
    gIf (0≤t9∧t9<((t7.length:Nat):Int)) (
      bIf ((hide (t9==(9:Int)))) (
        J2 n m (b,n_,t9,(List.getD t7 t9.toNat 0),t7,t8,t9,(hide (decide ((List.getD t7 t9.toNat 0)>(1:Int)))),())
        ) (
        J2 n m (b,n_,t9,(List.getD t7 t9.toNat 0),t7,t8,t9,false,())
        )
      )
    ) (
    J4 n (())
    ):=(yah _).trans (by kernel_rfl)
theorem e2 (n m1:Nat)(b:List (Int))(n_:Int)(i:Int)(x_:Int)(t7:List (Int))(t8:Int)(t9:Int)(t19:Bool):J2 n m1 (b,n_,i,x_,t7,t8,t9,t19,()) =
  bIf (t19) (
    some (0,0,2,())
    ) (
    J3 n m1 (b,n_,i,x_,t7,t8,t9,())
    ):=(yah _).trans (by kernel_rfl)
theorem e3 (n m1:Nat) (b:List (Int)) (n_:Int) (i:Int) (x_:Int) (t7:List (Int)) (t8:Int) (t9:Int):J3 n m1 (b,n_,i,x_,t7,t8,t9,()) =
  gNo ((IntKind.u64.wrap ((7:Int)*(IntKind.u64.wrap i)))<0) (
    gNo ((7 : Int)<0) (
      bIf ((hide ((shrI .u8 x_ 7) != (0:Int)))) (
        J1 n m1 (b,(bitI .or .u64 n_ (shlI .u64 (IntKind.u64.wrap (bitI .andNot .u8 x_ 128)) (IntKind.u64.wrap ((7:Int)*(IntKind.u64.wrap i))))),t7,t8,(IntKind.i64.wrap (t9+(1:Int))),())
        ) (
        bnd (ycX.f n (bitI .or .u64 n_ (shlI .u64 (IntKind.u64.wrap (bitI .andNot .u8 x_ 128)) (IntKind.u64.wrap ((7:Int)*(IntKind.u64.wrap i)))))) λu1=>
        gIf (0≤(IntKind.i64.wrap (i+(1:Int)))∧(IntKind.i64.wrap (i+(1:Int)))≤((b.length:Nat):Int)) (
          gIf (0≤(0:Int)∧(0:Int)≤(IntKind.i64.wrap (i+(1:Int)))) (
            bnd (ybg.f n u1.1 ((b.take ((IntKind.i64.wrap (i+(1:Int))).toNat)).drop 0)) λu2=>
            bIf ((!u2.1)) (
              some (0,0,2,())
              ) (
              some ((bitI .or .u64 n_ (shlI .u64 (IntKind.u64.wrap (bitI .andNot .u8 x_ 128)) (IntKind.u64.wrap ((7:Int)*(IntKind.u64.wrap i))))),(IntKind.i64.wrap (i+(1:Int))),0,())
              )
            )
          )
        )
      )
    ):=(yah _).trans (by kernel_rfl)
theorem e4 (n:Nat):J4 n (()) =
  some (0,0,3,()):=(yah _).trans (by kernel_rfl)
theorem phi (n:Nat):∀ e∈(X n).c.Φ,EntryOk Tryz.prog e:=yae (yac (ycX.ok n)) (yae (yac (ybg.ok n)) (yax))
theorem ok (n:Nat):FnOk Tryz.prog 238 ia io (fRun (X n) n T Tryz.f238 ia io):=yaH mixed tabIs (phi n) Tryz.func238 (by kernel_rfl) rfl
noncomputable def en (n:Nat):Entry:=yaD 238 ia io (fRun (X n) n T Tryz.f238 ia io)
end ybn
end Go.Proofs.YtdlkpmohjhjmfaaGreatDoor

namespace Go.Proofs.YtdlkpmohjhjmfaaGreatDoor
open Go Go.Va Go.Proofs
namespace yeK
abbrev ia:List Ai:=[.dat (.int .u64)]
abbrev io:List (Nat×Oi):=[(2,.dat (.int .i64))]
abbrev R:Type:=DOut ia io
noncomputable def X (n:Nat):Ctx:=⟨⟨tab,[],0,[]⟩,11,bnOf 0 ia⟩
noncomputable def T:CT := .o
noncomputable def f (n:Nat)(u:Int):Option R:=fRun (X n) n T Tryz.f254 ia io (u,())
theorem e0 (n:Nat)(u:Int):f n u =
  gNo ((1:Int)<0) (
    some ((bitI .xor .i64 (IntKind.i64.wrap (shrI .u64 u 1)) (IntKind.i64.wrap (0-(IntKind.i64.wrap (bitI .and .u64 u 1))))),())
    ):=(yah _).trans (by kernel_rfl)
theorem phi (n:Nat):∀ e∈(X n).c.Φ,EntryOk Tryz.prog e:=yax
theorem ok (n:Nat):FnOk Tryz.prog 254 ia io (fRun (X n) n T Tryz.f254 ia io):=yaH mixed tabIs (phi n) Tryz.func254 (by kernel_rfl) rfl
noncomputable def en (n:Nat):Entry:=yaD 254 ia io (fRun (X n) n T Tryz.f254 ia io)
end yeK
end Go.Proofs.YtdlkpmohjhjmfaaGreatDoor

namespace Go.Proofs.YtdlkpmohjhjmfaaGreatDoor
open Go Go.Va Go.Proofs
namespace ya8
abbrev ia:List Ai:=[.ptr (.p (.r 0 (.int .u8)) (.d .unit)),.dat (.slice (.int .u8))]
abbrev io:List (Nat×Oi):=[(4,.arg 0 500000 (.d ybr))]
abbrev R:Type:=DOut ia io
noncomputable def X (n:Nat):Ctx:=⟨⟨tab,[],0,[]⟩,17,bnOf 0 ia⟩
noncomputable def T:CT := .o
noncomputable def f (n:Nat)(w_:yaC)(b:List (Int)):Option R:=fRun (X n) n T Tryz.f117 ia io (w_,b,())
theorem e0 (n:Nat)(w_:yaC)(b:List (Int)):f n w_ b =
  bIf ((hide true)) (
    gIf ((w_.1.length+b.length)*1≤70368744177664) (
      some (((w_.1++b),w_.2),())
      )
    ) (
    some ((w_.1,w_.2),())
    ):=(yah _).trans (by kernel_rfl)
theorem phi (n:Nat):∀ e∈(X n).c.Φ,EntryOk Tryz.prog e:=yax
theorem ok (n:Nat):FnOk Tryz.prog 117 ia io (fRun (X n) n T Tryz.f117 ia io):=yaH mixed tabIs (phi n) Tryz.func117 (by kernel_rfl) rfl
noncomputable def en (n:Nat):Entry:=yaD 117 ia io (fRun (X n) n T Tryz.f117 ia io)
end ya8
end Go.Proofs.YtdlkpmohjhjmfaaGreatDoor

namespace Go.Proofs.YtdlkpmohjhjmfaaGreatDoor
open Go Go.Va Go.Proofs
namespace yam
abbrev ia:List Ai:=[.ptr (.p (.r 0 (.int .u8)) (.d .unit)),.dat (.int .u64)]
abbrev io:List (Nat×Oi):=[(4,.arg 0 500000 (.d ybr))]
abbrev R:Type:=DOut ia io
noncomputable def X (n:Nat):Ctx:=⟨⟨tab,[ya8.en n,ycX.en n],0,[]⟩,9,bnOf 0 ia⟩
noncomputable def T:CT := .o
noncomputable def f (n:Nat)(w_:yaC)(n_:Int):Option R:=fRun (X n) n T Tryz.f58 ia io (w_,n_,())
theorem e0 (n:Nat)(w_:yaC)(n_:Int):f n w_ n_ =
  bnd (ycX.f n n_) λu1=>
  bnd (ya8.f n (w_.1,w_.2) u1.1) λu2=>
  some ((u2.1.1,u2.1.2),()):=(yah _).trans (by kernel_rfl)
theorem phi (n:Nat):∀ e∈(X n).c.Φ,EntryOk Tryz.prog e:=yae (yac (ya8.ok n)) (yae (yac (ycX.ok n)) (yax))
theorem ok (n:Nat):FnOk Tryz.prog 58 ia io (fRun (X n) n T Tryz.f58 ia io):=yaH mixed tabIs (phi n) Tryz.func58 (by kernel_rfl) rfl
noncomputable def en (n:Nat):Entry:=yaD 58 ia io (fRun (X n) n T Tryz.f58 ia io)
end yam
end Go.Proofs.YtdlkpmohjhjmfaaGreatDoor

namespace Go.Proofs.YtdlkpmohjhjmfaaGreatDoor
open Go Go.Va Go.Proofs
namespace ycj
abbrev ia:List Ai:=[.fn (.str 1) [(.p (.r 0 (.int .u8)) (.d .unit))],.dat yaz]
abbrev io:List (Nat×Oi):=[]
abbrev R:Type:=DOut ia io
noncomputable def X (n:Nat):Ctx:=⟨⟨tab,[yam.en n],0,[]⟩,14,bnOf 0 ia⟩
noncomputable def T:CT := .o
noncomputable def f (n:Nat)(wc0:yaC)(d:yaj):Option R:=fRun (X n) n T Tryz.f134 ia io (wc0,d,())
theorem e0 (n:Nat)(wc0:yaC)(d:yaj):f n wc0 d =
  bnd (yam.f n (wc0.1,wc0.2) (IntKind.u64.wrap d.1)) λu1=>
  bnd (yam.f n (u1.1.1,u1.1.2) (IntKind.u64.wrap d.2.1)) λu2=>
  some ((u2.1.1,u2.1.2),()):=(yah _).trans (by kernel_rfl)
theorem phi (n:Nat):∀ e∈(X n).c.Φ,EntryOk Tryz.prog e:=yae (yac (yam.ok n)) (yax)
theorem ok (n:Nat):FnOk Tryz.prog 134 ia io (fRun (X n) n T Tryz.f134 ia io):=yaH mixed tabIs (phi n) Tryz.func134 (by kernel_rfl) rfl
noncomputable def en (n:Nat):Entry:=yaD 134 ia io (fRun (X n) n T Tryz.f134 ia io)
end ycj
end Go.Proofs.YtdlkpmohjhjmfaaGreatDoor

namespace Go.Proofs.YtdlkpmohjhjmfaaGreatDoor
open Go Go.Va Go.Proofs
namespace yaJ
abbrev ia:List Ai:=[.ptr (.p (.r 0 (.int .u8)) (.d .unit)),.dat .bool]
abbrev io:List (Nat×Oi):=[(4,.arg 0 500000 (.d ybr))]
abbrev R:Type:=DOut ia io
noncomputable def X (n:Nat):Ctx:=⟨⟨tab,[ya8.en n],0,[]⟩,12,bnOf 0 ia⟩
noncomputable def T:CT := .o
noncomputable def f (n:Nat)(w_:yaC)(b:Bool):Option R:=fRun (X n) n T Tryz.f61 ia io (w_,b,())
theorem e0 (n:Nat)(w_:yaC)(b:Bool):f n w_ b =
  bIf (b) (
    bnd (ya8.f n (w_.1,w_.2) ([1]:List (Int))) λu1=>
    some ((u1.1.1,u1.1.2),())
    ) (
    bnd (ya8.f n (w_.1,w_.2) ([0]:List (Int))) λu2=>
    some ((u2.1.1,u2.1.2),())
    ):=(yah _).trans (by kernel_rfl)
theorem phi (n:Nat):∀ e∈(X n).c.Φ,EntryOk Tryz.prog e:=yae (yac (ya8.ok n)) (yax)
theorem ok (n:Nat):FnOk Tryz.prog 61 ia io (fRun (X n) n T Tryz.f61 ia io):=yaH mixed tabIs (phi n) Tryz.func61 (by kernel_rfl) rfl
noncomputable def en (n:Nat):Entry:=yaD 61 ia io (fRun (X n) n T Tryz.f61 ia io)
end yaJ
end Go.Proofs.YtdlkpmohjhjmfaaGreatDoor

namespace Go.Proofs.YtdlkpmohjhjmfaaGreatDoor
open Go Go.Va Go.Proofs
namespace yas
abbrev ia:List Ai:=[.ptr (.p (.r 0 (.int .u8)) (.d .unit)),.dat .str]
abbrev io:List (Nat×Oi):=[(4,.arg 0 500000 (.d ybr))]
abbrev R:Type:=DOut ia io
noncomputable def X (n:Nat):Ctx:=⟨⟨tab,[yam.en n,ya8.en n],0,[]⟩,13,bnOf 0 ia⟩
noncomputable def T:CT := .o
noncomputable def f (n:Nat)(w_:yaC)(s_:ByteArray):Option R:=fRun (X n) n T Tryz.f60 ia io (w_,s_,())
theorem e0 (n:Nat)(w_:yaC)(s_:ByteArray):f n w_ s_ =
  bnd (yam.f n (w_.1,w_.2) (IntKind.u64.wrap (s_.size:Int))) λu1=>
  bnd (ya8.f n (u1.1.1,u1.1.2) (ybJ s_)) λu2=>
  some ((u2.1.1,u2.1.2),()):=(yah _).trans (by kernel_rfl)
theorem phi (n:Nat):∀ e∈(X n).c.Φ,EntryOk Tryz.prog e:=yae (yac (yam.ok n)) (yae (yac (ya8.ok n)) (yax))
theorem ok (n:Nat):FnOk Tryz.prog 60 ia io (fRun (X n) n T Tryz.f60 ia io):=yaH mixed tabIs (phi n) Tryz.func60 (by kernel_rfl) rfl
noncomputable def en (n:Nat):Entry:=yaD 60 ia io (fRun (X n) n T Tryz.f60 ia io)
end yas
end Go.Proofs.YtdlkpmohjhjmfaaGreatDoor

namespace Go.Proofs.YtdlkpmohjhjmfaaGreatDoor
open Go Go.Va Go.Proofs
namespace ybL
abbrev ia:List Ai:=[.fn (.str 1) [(.p (.r 0 (.int .u8)) (.d .unit))],.dat (.slice yaI)]
abbrev io:List (Nat×Oi):=[]
abbrev R:Type:=DOut ia io
noncomputable def X (n:Nat):Ctx:=⟨⟨tab,[yam.en n,yas.en n,yaJ.en n],0,[]⟩,33,bnOf 0 ia⟩
abbrev g1:List Si:=[.ref 2 2 ycP,.dat 12 (.slice yaI),.dat 13 (.int .i64),.dat 14 (.int .i64),.box 2 (.p (.al 500000 ybr) (.d .unit)),.box 500000 (.p (.r 100000500000000 (.int .u8)) (.d .unit))]
noncomputable def T:CT:=(.s .o (.s .o (.s .o (.b (.l g1 .o)))))
noncomputable def J1 (n:Nat)(m:Nat):(List (yag))×Int×Int×ycx×yaC×Unit→Option R:=jL (X n) n T (yaR Tryz.f136) (endK ia io) g1 [1,1,1,0] [] m
noncomputable def f (n:Nat)(wc0:yaC)(list:List (yag)):Option R:=fRun (X n) n T Tryz.f136 ia io (wc0,list,())
theorem e0 (n:Nat)(wc0:yaC)(list:List (yag)):f n wc0 list =
  bnd (yam.f n (wc0.1,wc0.2) (IntKind.u64.wrap ((list.length:Nat):Int))) λu1=>
  J1 n n (list,((list.length:Nat):Int),0,((),()),(u1.1.1,u1.1.2),()):=(yah _).trans (by kernel_rfl)
theorem e1 (n m:Nat)(t12:List (yag))(t13:Int)(t14:Int)(w_:ycx)(b500000:yaC):J1 n (m+1) (t12,t13,t14,w_,b500000,()) =
  bIf ((hide (decide (t14<t13)))) (
    gIf (0≤t14∧t14<((t12.length:Nat):Int)) (
      bnd (yaJ.f n (b500000.1,b500000.2) ((List.getD t12 t14.toNat (Va.dflt yaI)).1)) λu1=>
      bnd (yas.f n (u1.1.1,u1.1.2) (((List.getD t12 t14.toNat (Va.dflt yaI)).2).1)) λu2=>
      bnd (yas.f n (u2.1.1,u2.1.2) ((((List.getD t12 t14.toNat (Va.dflt yaI)).2).2).1)) λu3=>
      bnd (yas.f n (u3.1.1,u3.1.2) (((((List.getD t12 t14.toNat (Va.dflt yaI)).2).2).2).1)) λu4=>
      J1 n m (t12,t13,(IntKind.i64.wrap (t14+(1:Int))),((),w_.2),(u4.1.1,u4.1.2),())
      )
    ) (
    some ((b500000.1,b500000.2),())
    ):=(yah _).trans (by kernel_rfl)
theorem phi (n:Nat):∀ e∈(X n).c.Φ,EntryOk Tryz.prog e:=yae (yac (yam.ok n)) (yae (yac (yas.ok n)) (yae (yac (yaJ.ok n)) (yax)))
theorem ok (n:Nat):FnOk Tryz.prog 136 ia io (fRun (X n) n T Tryz.f136 ia io):=yaH mixed tabIs (phi n) Tryz.func136 (by kernel_rfl) rfl
noncomputable def en (n:Nat):Entry:=yaD 136 ia io (fRun (X n) n T Tryz.f136 ia io)
end ybL
end Go.Proofs.YtdlkpmohjhjmfaaGreatDoor

namespace Go.Proofs.YtdlkpmohjhjmfaaGreatDoor
open Go Go.Va Go.Proofs
namespace ybz
abbrev ia:List Ai:=[.ptr (.p (.r 0 (.int .u8)) (.d .unit)),.dat (.int .i64)]
abbrev io:List (Nat×Oi):=[(4,.arg 0 500000 (.d ybr))]
abbrev R:Type:=DOut ia io
noncomputable def X (n:Nat):Ctx:=⟨⟨tab,[yam.en n,yeG.en n],0,[]⟩,9,bnOf 0 ia⟩
noncomputable def T:CT := .o
noncomputable def f (n:Nat)(w_:yaC)(n_:Int):Option R:=fRun (X n) n T Tryz.f121 ia io (w_,n_,())
theorem e0 (n:Nat)(w_:yaC)(n_:Int):f n w_ n_ =
  bnd (yeG.f n n_) λu1=>
  bnd (yam.f n (w_.1,w_.2) u1.1) λu2=>
  some ((u2.1.1,u2.1.2),()):=(yah _).trans (by kernel_rfl)
theorem phi (n:Nat):∀ e∈(X n).c.Φ,EntryOk Tryz.prog e:=yae (yac (yam.ok n)) (yae (yac (yeG.ok n)) (yax))
theorem ok (n:Nat):FnOk Tryz.prog 121 ia io (fRun (X n) n T Tryz.f121 ia io):=yaH mixed tabIs (phi n) Tryz.func121 (by kernel_rfl) rfl
noncomputable def en (n:Nat):Entry:=yaD 121 ia io (fRun (X n) n T Tryz.f121 ia io)
end ybz
end Go.Proofs.YtdlkpmohjhjmfaaGreatDoor

namespace Go.Proofs.YtdlkpmohjhjmfaaGreatDoor
open Go Go.Va Go.Proofs
namespace ybw
abbrev ia:List Ai:=[.fn (.str 1) [(.p (.r 0 (.int .u8)) (.d .unit))],.dat yaK]
abbrev io:List (Nat×Oi):=[]
abbrev R:Type:=DOut ia io
noncomputable def X (n:Nat):Ctx:=⟨⟨tab,[yam.en n,yaJ.en n,ybz.en n],0,[]⟩,16,bnOf 0 ia⟩
noncomputable def T:CT := .o
noncomputable def f (n:Nat)(wc0:yaC)(l:yan):Option R:=fRun (X n) n T Tryz.f123 ia io (wc0,l,())
theorem e0 (n:Nat)(wc0:yaC)(l:yan):f n wc0 l =
  bnd (yam.f n (wc0.1,wc0.2) (IntKind.u64.wrap l.1)) λu1=>
  bnd (ybz.f n (u1.1.1,u1.1.2) l.2.1) λu2=>
  bnd (yaJ.f n (u2.1.1,u2.1.2) l.2.2.1) λu3=>
  some ((u3.1.1,u3.1.2),()):=(yah _).trans (by kernel_rfl)
theorem phi (n:Nat):∀ e∈(X n).c.Φ,EntryOk Tryz.prog e:=yae (yac (yam.ok n)) (yae (yac (yaJ.ok n)) (yae (yac (ybz.ok n)) (yax)))
theorem ok (n:Nat):FnOk Tryz.prog 123 ia io (fRun (X n) n T Tryz.f123 ia io):=yaH mixed tabIs (phi n) Tryz.func123 (by kernel_rfl) rfl
noncomputable def en (n:Nat):Entry:=yaD 123 ia io (fRun (X n) n T Tryz.f123 ia io)
end ybw
end Go.Proofs.YtdlkpmohjhjmfaaGreatDoor

namespace Go.Proofs.YtdlkpmohjhjmfaaGreatDoor
open Go Go.Va Go.Proofs
namespace ya5
abbrev ia:List Ai:=[.fn (.str 1) [(.p (.r 0 (.int .u8)) (.d .unit))],.dat (.slice yaL)]
abbrev io:List (Nat×Oi):=[]
abbrev R:Type:=DOut ia io
noncomputable def X (n:Nat):Ctx:=⟨⟨tab,[yam.en n,yas.en n],0,[]⟩,27,bnOf 0 ia⟩
abbrev g1:List Si:=[.ref 2 2 ycP,.dat 12 (.slice yaL),.dat 13 (.int .i64),.dat 14 (.int .i64),.box 2 (.p (.al 500000 ybr) (.d .unit)),.box 500000 (.p (.r 100000500000000 (.int .u8)) (.d .unit))]
noncomputable def T:CT:=(.s .o (.s .o (.s .o (.b (.l g1 .o)))))
noncomputable def J1 (n:Nat)(m:Nat):(List (yak))×Int×Int×ycx×yaC×Unit→Option R:=jL (X n) n T (yaR Tryz.f124) (endK ia io) g1 [1,1,1,0] [] m
noncomputable def f (n:Nat)(wc0:yaC)(list:List (yak)):Option R:=fRun (X n) n T Tryz.f124 ia io (wc0,list,())
theorem e0 (n:Nat)(wc0:yaC)(list:List (yak)):f n wc0 list =
  bnd (yam.f n (wc0.1,wc0.2) (IntKind.u64.wrap ((list.length:Nat):Int))) λu1=>
  J1 n n (list,((list.length:Nat):Int),0,((),()),(u1.1.1,u1.1.2),()):=(yah _).trans (by kernel_rfl)
theorem e1 (n m:Nat)(t12:List (yak))(t13:Int)(t14:Int)(w_:ycx)(b500000:yaC):J1 n (m+1) (t12,t13,t14,w_,b500000,()) =
  bIf ((hide (decide (t14<t13)))) (
    gIf (0≤t14∧t14<((t12.length:Nat):Int)) (
      bnd (yas.f n (b500000.1,b500000.2) ((List.getD t12 t14.toNat (Va.dflt yaL)).1)) λu1=>
      bnd (yas.f n (u1.1.1,u1.1.2) (((List.getD t12 t14.toNat (Va.dflt yaL)).2).1)) λu2=>
      J1 n m (t12,t13,(IntKind.i64.wrap (t14+(1:Int))),((),w_.2),(u2.1.1,u2.1.2),())
      )
    ) (
    some ((b500000.1,b500000.2),())
    ):=(yah _).trans (by kernel_rfl)
theorem phi (n:Nat):∀ e∈(X n).c.Φ,EntryOk Tryz.prog e:=yae (yac (yam.ok n)) (yae (yac (yas.ok n)) (yax))
theorem ok (n:Nat):FnOk Tryz.prog 124 ia io (fRun (X n) n T Tryz.f124 ia io):=yaH mixed tabIs (phi n) Tryz.func124 (by kernel_rfl) rfl
noncomputable def en (n:Nat):Entry:=yaD 124 ia io (fRun (X n) n T Tryz.f124 ia io)
end ya5
end Go.Proofs.YtdlkpmohjhjmfaaGreatDoor

namespace Go.Proofs.YtdlkpmohjhjmfaaGreatDoor
open Go Go.Va Go.Proofs
namespace ybP
abbrev ia:List Ai:=[.fn (.str 1) [(.p (.r 0 (.int .u8)) (.d .unit))],.dat (.slice yaG)]
abbrev io:List (Nat×Oi):=[]
abbrev R:Type:=DOut ia io
noncomputable def X (n:Nat):Ctx:=⟨⟨tab,[yam.en n,yas.en n,yaJ.en n,ya5.en n],0,[]⟩,41,bnOf 0 ia⟩
abbrev g1:List Si:=[.ref 2 2 ycP,.dat 12 (.slice yaG),.dat 13 (.int .i64),.dat 14 (.int .i64),.box 2 (.p (.al 500000 ybr) (.d .unit)),.box 500000 (.p (.r 100000500000000 (.int .u8)) (.d .unit))]
noncomputable def T:CT:=(.s .o (.s .o (.s .o (.b (.l g1 .o)))))
noncomputable def J1 (n:Nat)(m:Nat):(List (yai))×Int×Int×ycx×yaC×Unit→Option R:=jL (X n) n T (yaR Tryz.f135) (endK ia io) g1 [1,1,1,0] [] m
noncomputable def f (n:Nat)(wc0:yaC)(list:List (yai)):Option R:=fRun (X n) n T Tryz.f135 ia io (wc0,list,())
theorem e0 (n:Nat)(wc0:yaC)(list:List (yai)):f n wc0 list =
  bnd (yam.f n (wc0.1,wc0.2) (IntKind.u64.wrap ((list.length:Nat):Int))) λu1=>
  J1 n n (list,((list.length:Nat):Int),0,((),()),(u1.1.1,u1.1.2),()):=(yah _).trans (by kernel_rfl)
theorem e1 (n m:Nat)(t12:List (yai))(t13:Int)(t14:Int)(w_:ycx)(b500000:yaC):J1 n (m+1) (t12,t13,t14,w_,b500000,()) =
  bIf ((hide (decide (t14<t13)))) (
    gIf (0≤t14∧t14<((t12.length:Nat):Int)) (
      bnd (yas.f n (b500000.1,b500000.2) ((List.getD t12 t14.toNat (Va.dflt yaG)).1)) λu1=>
      bnd (ya5.f n (u1.1.1,u1.1.2) (((List.getD t12 t14.toNat (Va.dflt yaG)).2).1)) λu2=>
      bnd (yam.f n (u2.1.1,u2.1.2) (IntKind.u64.wrap ((((List.getD t12 t14.toNat (Va.dflt yaG)).2).2).1))) λu3=>
      bnd (yam.f n (u3.1.1,u3.1.2) (IntKind.u64.wrap (((((List.getD t12 t14.toNat (Va.dflt yaG)).2).2).2).1))) λu4=>
      bnd (yaJ.f n (u4.1.1,u4.1.2) ((((((List.getD t12 t14.toNat (Va.dflt yaG)).2).2).2).2).1)) λu5=>
      J1 n m (t12,t13,(IntKind.i64.wrap (t14+(1:Int))),((),w_.2),(u5.1.1,u5.1.2),())
      )
    ) (
    some ((b500000.1,b500000.2),())
    ):=(yah _).trans (by kernel_rfl)
theorem phi (n:Nat):∀ e∈(X n).c.Φ,EntryOk Tryz.prog e:=yae (yac (yam.ok n)) (yae (yac (yas.ok n)) (yae (yac (yaJ.ok n)) (yae (yac (ya5.ok n)) (yax))))
theorem ok (n:Nat):FnOk Tryz.prog 135 ia io (fRun (X n) n T Tryz.f135 ia io):=yaH mixed tabIs (phi n) Tryz.func135 (by kernel_rfl) rfl
noncomputable def en (n:Nat):Entry:=yaD 135 ia io (fRun (X n) n T Tryz.f135 ia io)
end ybP
end Go.Proofs.YtdlkpmohjhjmfaaGreatDoor

namespace Go.Proofs.YtdlkpmohjhjmfaaGreatDoor
open Go Go.Va Go.Proofs
namespace ycC
abbrev ia:List Ai:=[.ptr (.p (.r 0 (.int .u8)) (.d .unit)),.dat (.arr 32 (.int .u8))]
abbrev io:List (Nat×Oi):=[(4,.arg 0 500000 (.d ybr))]
abbrev R:Type:=DOut ia io
noncomputable def X (n:Nat):Ctx:=⟨⟨tab,[ya8.en n],0,[6]⟩,8,bnOf 0 ia⟩
noncomputable def T:CT := .o
noncomputable def f (n:Nat)(w_:yaC)(d:List (Int)):Option R:=fRun (X n) n T Tryz.f122 ia io (w_,d,())
theorem e0 (n:Nat)(w_:yaC)(d:List (Int)):f n w_ d =
  bnd (ya8.f n (w_.1,w_.2) d) λu1=>
  some ((u1.1.1,u1.1.2),()):=(yah _).trans (by kernel_rfl)
theorem phi (n:Nat):∀ e∈(X n).c.Φ,EntryOk Tryz.prog e:=yae (yac (ya8.ok n)) (yax)
theorem ok (n:Nat):FnOk Tryz.prog 122 ia io (fRun (X n) n T Tryz.f122 ia io):=yaH mixed tabIs (phi n) Tryz.func122 (by kernel_rfl) rfl
noncomputable def en (n:Nat):Entry:=yaD 122 ia io (fRun (X n) n T Tryz.f122 ia io)
end ycC
end Go.Proofs.YtdlkpmohjhjmfaaGreatDoor

namespace Go.Proofs.YtdlkpmohjhjmfaaGreatDoor
open Go Go.Va Go.Proofs
namespace ybt
abbrev ia:List Ai:=[.fn (.str 1) [(.p (.r 0 (.int .u8)) (.d .unit))],.dat yb4]
abbrev io:List (Nat×Oi):=[]
abbrev R:Type:=DOut ia io
noncomputable def X (n:Nat):Ctx:=⟨⟨tab,[yam.en n,yaJ.en n,ybz.en n,ycC.en n,ybw.en n,ya5.en n],0,[]⟩,37,bnOf 0 ia⟩
noncomputable def T:CT := .o
noncomputable def f (n:Nat)(wc0:yaC)(v_:ybs):Option R:=fRun (X n) n T Tryz.f62 ia io (wc0,v_,())
theorem e0 (n:Nat)(wc0:yaC)(v_:ybs):f n wc0 v_ =
  bnd (yam.f n (wc0.1,wc0.2) v_.1) λu1=>
  bnd (yaJ.f n (u1.1.1,u1.1.2) v_.2.1) λu2=>
  bnd (ybz.f n (u2.1.1,u2.1.2) v_.2.2.2.2.2.1) λu3=>
  bIf (v_.2.1) (
    some ((u3.1.1,u3.1.2),())
    ) (
    bnd (yam.f n (u3.1.1,u3.1.2) (IntKind.u64.wrap v_.2.2.1)) λu4=>
    bnd (yam.f n (u4.1.1,u4.1.2) v_.2.2.2.1) λu5=>
    bnd (ycC.f n (u5.1.1,u5.1.2) v_.2.2.2.2.1) λu6=>
    bnd (ybw.f n (u6.1.1,u6.1.2) v_.2.2.2.2.2.2.1) λu7=>
    bnd (ya5.f n (u7.1.1,u7.1.2) v_.2.2.2.2.2.2.2.1) λu8=>
    some ((u8.1.1,u8.1.2),())
    ):=(yah _).trans (by kernel_rfl)
theorem phi (n:Nat):∀ e∈(X n).c.Φ,EntryOk Tryz.prog e:=yae (yac (yam.ok n)) (yae (yac (yaJ.ok n)) (yae (yac (ybz.ok n)) (yae (yac (ycC.ok n)) (yae (yac (ybw.ok n)) (yae (yac (ya5.ok n)) (yax))))))
theorem ok (n:Nat):FnOk Tryz.prog 62 ia io (fRun (X n) n T Tryz.f62 ia io):=yaH mixed tabIs (phi n) Tryz.func62 (by kernel_rfl) rfl
noncomputable def en (n:Nat):Entry:=yaD 62 ia io (fRun (X n) n T Tryz.f62 ia io)
end ybt
end Go.Proofs.YtdlkpmohjhjmfaaGreatDoor

namespace Go.Proofs.YtdlkpmohjhjmfaaGreatDoor
open Go Go.Va Go.Proofs
namespace ycM
abbrev ia:List Ai:=[.dat (.slice (.int .u8))]
abbrev io:List (Nat×Oi):=[(2,.dat (.slice (.int .u8)))]
abbrev R:Type:=DOut ia io
noncomputable def X (n:Nat):Ctx:=⟨⟨tab,[],0,[]⟩,9,bnOf 0 ia⟩
noncomputable def T:CT := .o
noncomputable def f (n:Nat)(s_:List (Int)):Option R:=fRun (X n) n T Tryz.f119 ia io (s_,())
theorem e0 (n:Nat) (s_:List (Int)):f n s_ =
  gIf (0≤((s_.length:Nat):Int)∧((s_.length:Nat):Int)≤((s_.length:Nat):Int)) (
    gIf (0≤(0:Int)∧(0:Int)≤((s_.length:Nat):Int)) (
      gIf (((s_.length:Nat):Int)≤((s_.length:Nat):Int)∧((s_.length:Nat):Int)≤((s_.length:Nat):Int)∧true=true) (
        some (((s_.take (((s_.length:Nat):Int).toNat)).drop 0),())
        )
      )
    ):=(yah _).trans (by kernel_rfl)
theorem phi (n:Nat):∀ e∈(X n).c.Φ,EntryOk Tryz.prog e:=yax
theorem ok (n:Nat):FnOk Tryz.prog 119 ia io (fRun (X n) n T Tryz.f119 ia io):=yaH mixed tabIs (phi n) Tryz.func119 (by kernel_rfl) rfl
noncomputable def en (n:Nat):Entry:=yaD 119 ia io (fRun (X n) n T Tryz.f119 ia io)
end ycM
end Go.Proofs.YtdlkpmohjhjmfaaGreatDoor

namespace Go.Proofs.YtdlkpmohjhjmfaaGreatDoor
open Go Go.Va Go.Proofs
namespace ybN
abbrev ia:List Ai:=[.dat (.slice (.int .u8))]
abbrev io:List (Nat×Oi):=[(2,.val (.r 0 (.int .u8)))]
abbrev R:Type:=DOut ia io
noncomputable def X (n:Nat):Ctx:=⟨⟨tab,[],0,[]⟩,8,bnOf 0 ia⟩
noncomputable def T:CT := .o
noncomputable def f (n:Nat)(s_:List (Int)):Option R:=fRun (X n) n T Tryz.f120 ia io (s_,())
theorem e0 (n:Nat) (s_:List (Int)):f n s_ =
  bIf ((s_.length==0)) (
    bothC (
      some ([],())
      ) (
      gIf ((([]:List (Int)).length+s_.length)*1≤70368744177664) (
        some ((([]:List (Int))++s_),())
        )
      )
    ) (
    gIf ((([]:List (Int)).length+s_.length)*1≤70368744177664) (
      some ((([]:List (Int))++s_),())
      )
    ):=(yah _).trans (by kernel_rfl)
theorem phi (n:Nat):∀ e∈(X n).c.Φ,EntryOk Tryz.prog e:=yax
theorem ok (n:Nat):FnOk Tryz.prog 120 ia io (fRun (X n) n T Tryz.f120 ia io):=yaH mixed tabIs (phi n) Tryz.func120 (by kernel_rfl) rfl
noncomputable def en (n:Nat):Entry:=yaD 120 ia io (fRun (X n) n T Tryz.f120 ia io)
end ybN
end Go.Proofs.YtdlkpmohjhjmfaaGreatDoor

namespace Go.Proofs.YtdlkpmohjhjmfaaGreatDoor
open Go Go.Va Go.Proofs
namespace ybW
abbrev ia:List Ai:=[.ptr (.p (.r 0 (.int .u8)) (.d .unit))]
abbrev io:List (Nat×Oi):=[(2,.dat (.slice (.int .u8)))]
abbrev R:Type:=DOut ia io
noncomputable def X (n:Nat):Ctx:=⟨⟨tab,[ycM.en n,ybN.en n],0,[]⟩,11,bnOf 0 ia⟩
noncomputable def T:CT := .o
noncomputable def f (n:Nat)(w_:yaC):Option R:=fRun (X n) n T Tryz.f59 ia io (w_,())
theorem e0 (n:Nat)(w_:yaC):f n w_ =
  bIf ((hide false)) (
    some ([],(w_.1,w_.2),())
    ) (
    bnd (ybN.f n w_.1) λu1=>
    bnd (ycM.f n u1.1) λu2=>
    some (u2.1,(w_.1,w_.2),())
    ):=(yah _).trans (by kernel_rfl)
theorem phi (n:Nat):∀ e∈(X n).c.Φ,EntryOk Tryz.prog e:=yae (yac (ycM.ok n)) (yae (yac (ybN.ok n)) (yax))
theorem ok (n:Nat):FnOk Tryz.prog 59 ia io (fRun (X n) n T Tryz.f59 ia io):=yaH mixed tabIs (phi n) Tryz.func59 (by kernel_rfl) rfl
noncomputable def en (n:Nat):Entry:=yaD 59 ia io (fRun (X n) n T Tryz.f59 ia io)
end ybW
end Go.Proofs.YtdlkpmohjhjmfaaGreatDoor

namespace Go.Proofs.YtdlkpmohjhjmfaaGreatDoor
open Go Go.Va Go.Proofs
namespace ya0
abbrev ia:List Ai:=[.ptr (.d yaA),.dat (.int .i64)]
abbrev io:List (Nat×Oi):=[]
abbrev R:Type:=DOut ia io
noncomputable def X (n:Nat):Ctx:=⟨⟨tab,[],0,[]⟩,13,bnOf 0 ia⟩
noncomputable def T:CT := .o
noncomputable def f (n:Nat)(r:yal)(e_:Int):Option R:=fRun (X n) n T Tryz.f217 ia io (r,e_,())
theorem e0 (n:Nat)(r:yal)(e_:Int):f n r e_ =
  bIf ((hide (r.2.1==(0:Int)))) (
    some ((r.1,(e_,r.2.2)),())
    ) (
    some (r,())
    ):=(yah _).trans (by kernel_rfl)
theorem phi (n:Nat):∀ e∈(X n).c.Φ,EntryOk Tryz.prog e:=yax
theorem ok (n:Nat):FnOk Tryz.prog 217 ia io (fRun (X n) n T Tryz.f217 ia io):=yaH mixed tabIs (phi n) Tryz.func217 (by kernel_rfl) rfl
noncomputable def en (n:Nat):Entry:=yaD 217 ia io (fRun (X n) n T Tryz.f217 ia io)
end ya0
end Go.Proofs.YtdlkpmohjhjmfaaGreatDoor

namespace Go.Proofs.YtdlkpmohjhjmfaaGreatDoor
open Go Go.Va Go.Proofs
namespace ybi
abbrev ia:List Ai:=[.ptr (.d yaA),.dat (.int .i64)]
abbrev io:List (Nat×Oi):=[(4,.dat (.slice (.int .u8)))]
abbrev R:Type:=DOut ia io
noncomputable def X (n:Nat):Ctx:=⟨⟨tab,[ya0.en n],0,[]⟩,43,bnOf 0 ia⟩
abbrev g1:List Si:=[.ref 0 500000 yaA,.dat 1 (.int .i64),.box 500000 (.d yaA)]
noncomputable def T:CT:=(.s .o (.s .o (.r g1 .o)))
noncomputable def J1 (n:Nat):Int×yal×Unit→Option R:=jR (X n) n T (yaR Tryz.f206) (endK ia io) g1 [1,1] []
noncomputable def f (n:Nat)(r:yal)(n_:Int):Option R:=fRun (X n) n T Tryz.f206 ia io (r,n_,())
theorem e0 (n:Nat)(r:yal)(n_:Int):f n r n_ =
  bIf ((hide (r.2.1==(0:Int)))) (
    bIf ((hide (decide (n_>((r.1.length:Nat):Int))))) (
      bnd (ya0.f n r 3) λu1=>
      J1 n (n_,u1.1,())
      ) (
      J1 n (n_,r,())
      )
    ) (
    J1 n (n_,r,())
    ):=(yah _).trans (by kernel_rfl)
theorem e1 (n:Nat) (n_:Int) (r:yal):J1 n (n_,r,()) =
  bIf ((hide (r.2.1 != (0:Int)))) (
    some ([],r,())
    ) (
    gIf (0≤n_∧n_≤((r.1.length:Nat):Int)) (
      gIf (0≤(0:Int)∧(0:Int)≤n_) (
        gIf (0≤((r.1.length:Nat):Int)∧((r.1.length:Nat):Int)≤((r.1.length:Nat):Int)) (
          gIf (0≤n_∧n_≤((r.1.length:Nat):Int)) (
            some (((r.1.take n_.toNat).drop 0),(((r.1.take ((((r.1.length:Nat):Int)).toNat)).drop n_.toNat),r.2),())
            )
          )
        )
      )
    ):=(yah _).trans (by kernel_rfl)
theorem phi (n:Nat):∀ e∈(X n).c.Φ,EntryOk Tryz.prog e:=yae (yac (ya0.ok n)) (yax)
theorem ok (n:Nat):FnOk Tryz.prog 206 ia io (fRun (X n) n T Tryz.f206 ia io):=yaH mixed tabIs (phi n) Tryz.func206 (by kernel_rfl) rfl
noncomputable def en (n:Nat):Entry:=yaD 206 ia io (fRun (X n) n T Tryz.f206 ia io)
end ybi
end Go.Proofs.YtdlkpmohjhjmfaaGreatDoor

namespace Go.Proofs.YtdlkpmohjhjmfaaGreatDoor
open Go Go.Va Go.Proofs
namespace yaQ
abbrev ia:List Ai:=[.ptr (.d yaA)]
abbrev io:List (Nat×Oi):=[(2,.dat (.int .u64))]
abbrev R:Type:=DOut ia io
noncomputable def X (n:Nat):Ctx:=⟨⟨tab,[ybi.en n,ya0.en n,ybn.en n],0,[]⟩,33,bnOf 0 ia⟩
abbrev g1:List Si:=[.ref 0 500000 yaA,.box 500000 (.d yaA)]
noncomputable def T:CT:=(.s .o (.s .o (.r g1 .o)))
noncomputable def J1 (n:Nat):yal×Unit→Option R:=jR (X n) n T (yaR Tryz.f215) (endK ia io) g1 [1,1] []
noncomputable def f (n:Nat)(r:yal):Option R:=fRun (X n) n T Tryz.f215 ia io (r,())
theorem e0 (n:Nat)(r:yal):f n r =
  bIf ((hide false)) (
    some (0,r,())
    ) (
    bIf ((hide (r.2.1 != (0:Int)))) (
      some (0,r,())
      ) (
      J1 n (r,())
      )
    ):=(yah _).trans (by kernel_rfl)
theorem e1 (n:Nat)(r:yal):J1 n (r,()) =
  bnd (ybn.f n r.1) λu1=>
  bIf ((hide (u1.2.2.1 != (0:Int)))) (
    bnd (ya0.f n r u1.2.2.1) λu2=>
    some (0,u2.1,())
    ) (
    bnd (ybi.f n r u1.2.1) λu3=>
    some (u1.1,u3.2.1,())
    ):=(yah _).trans (by kernel_rfl)
theorem phi (n:Nat):∀ e∈(X n).c.Φ,EntryOk Tryz.prog e:=yae (yac (ybi.ok n)) (yae (yac (ya0.ok n)) (yae (yac (ybn.ok n)) (yax)))
theorem ok (n:Nat):FnOk Tryz.prog 215 ia io (fRun (X n) n T Tryz.f215 ia io):=yaH mixed tabIs (phi n) Tryz.func215 (by kernel_rfl) rfl
noncomputable def en (n:Nat):Entry:=yaD 215 ia io (fRun (X n) n T Tryz.f215 ia io)
end yaQ
end Go.Proofs.YtdlkpmohjhjmfaaGreatDoor

namespace Go.Proofs.YtdlkpmohjhjmfaaGreatDoor
open Go Go.Va Go.Proofs
namespace yaF
abbrev ia:List Ai:=[.ptr (.d yaA),.dat (.int .i64)]
abbrev io:List (Nat×Oi):=[(4,.dat (.int .i64))]
abbrev R:Type:=DOut ia io
noncomputable def X (n:Nat):Ctx:=⟨⟨tab,[yaQ.en n,ya0.en n],0,[]⟩,29,bnOf 0 ia⟩
abbrev g1:List Si:=[.ref 0 500000 yaA,.dat 1 (.int .i64),.dat 5 (.int .u64),.box 500000 (.d yaA)]
abbrev g2:List Si:=[.ref 0 500000 yaA,.dat 5 (.int .u64),.dat 24 .bool,.box 500000 (.d yaA)]
abbrev g3:List Si:=[.dat 5 (.int .u64),.box 500000 (.d yaA)]
noncomputable def T:CT:=(.s .o (.s .o (.s .o (.r g1 (.s (.s .o (.r g2 .o)) (.r g3 .o))))))
noncomputable def J1 (n:Nat):Int×Int×yal×Unit→Option R:=jR (X n) n T (yaR Tryz.f205) (endK ia io) g1 [1,1,1] []
noncomputable def J2 (n:Nat):Int×Bool×yal×Unit→Option R:=jR (X n) n T (yaR Tryz.f205) (endK ia io) g2 [1,1,1,0,1] []
noncomputable def J3 (n:Nat):Int×yal×Unit→Option R:=jR (X n) n T (yaR Tryz.f205) (endK ia io) g3 [1,1,1,1] []
noncomputable def f (n:Nat)(r:yal)(most:Int):Option R:=fRun (X n) n T Tryz.f205 ia io (r,most,())
theorem e0 (n:Nat)(r:yal)(most:Int):f n r most =
  bnd (yaQ.f n r) λu1=>
  bIf ((hide false)) (
    some (0,u1.2.1,())
    ) (
    bIf ((hide (u1.2.1.2.1 != (0:Int)))) (
      some (0,u1.2.1,())
      ) (
      J1 n (most,u1.1,u1.2.1,())
      )
    ):=(yah _).trans (by kernel_rfl)
theorem e1 (n:Nat)(most:Int)(n_:Int)(r:yal):J1 n (most,n_,r,()) =
  bIf ((hide (decide (most<(0:Int))))) (
    J2 n (n_,true,r,())
    ) (
    J2 n (n_,(hide (decide (n_>(IntKind.u64.wrap most)))),r,())
    ):=(yah _).trans (by kernel_rfl)
theorem e2 (n:Nat)(n_:Int)(t24:Bool)(r:yal):J2 n (n_,t24,r,()) =
  bIf (t24) (
    bnd (ya0.f n r 17) λu1=>
    some (0,u1.1,())
    ) (
    J3 n (n_,r,())
    ):=(yah _).trans (by kernel_rfl)
theorem e3 (n:Nat)(n_:Int)(b500000:yal):J3 n (n_,b500000,()) =
  some ((IntKind.i64.wrap n_),b500000,()):=(yah _).trans (by kernel_rfl)
theorem phi (n:Nat):∀ e∈(X n).c.Φ,EntryOk Tryz.prog e:=yae (yac (yaQ.ok n)) (yae (yac (ya0.ok n)) (yax))
theorem ok (n:Nat):FnOk Tryz.prog 205 ia io (fRun (X n) n T Tryz.f205 ia io):=yaH mixed tabIs (phi n) Tryz.func205 (by kernel_rfl) rfl
noncomputable def en (n:Nat):Entry:=yaD 205 ia io (fRun (X n) n T Tryz.f205 ia io)
end yaF
end Go.Proofs.YtdlkpmohjhjmfaaGreatDoor

namespace Go.Proofs.YtdlkpmohjhjmfaaGreatDoor
open Go Go.Va Go.Proofs
namespace yaE
abbrev ia:List Ai:=[.fn (.str 1) [(.d yaA)]]
abbrev io:List (Nat×Oi):=[(2,.dat (.int .i64))]
abbrev R:Type:=DOut ia io
noncomputable def X (n:Nat):Ctx:=⟨⟨tab,[yaF.en n],0,[]⟩,6,bnOf 0 ia⟩
noncomputable def T:CT := .o
noncomputable def f (n:Nat)(rc0:yal):Option R:=fRun (X n) n T Tryz.f154 ia io (rc0,())
theorem e0 (n:Nat)(rc0:yal):f n rc0 =
  bnd (yaF.f n rc0 1099511627776) λu1=>
  some (u1.1,u1.2.1,()):=(yah _).trans (by kernel_rfl)
theorem phi (n:Nat):∀ e∈(X n).c.Φ,EntryOk Tryz.prog e:=yae (yac (yaF.ok n)) (yax)
theorem ok (n:Nat):FnOk Tryz.prog 154 ia io (fRun (X n) n T Tryz.f154 ia io):=yaH mixed tabIs (phi n) Tryz.func154 (by kernel_rfl) rfl
noncomputable def en (n:Nat):Entry:=yaD 154 ia io (fRun (X n) n T Tryz.f154 ia io)
end yaE
end Go.Proofs.YtdlkpmohjhjmfaaGreatDoor

namespace Go.Proofs.YtdlkpmohjhjmfaaGreatDoor
open Go Go.Va Go.Proofs
namespace yaS
abbrev ia:List Ai:=[.ptr (.d yaA)]
abbrev io:List (Nat×Oi):=[(2,.dat .bool)]
abbrev R:Type:=DOut ia io
noncomputable def X (n:Nat):Ctx:=⟨⟨tab,[ybi.en n,ya0.en n],0,[]⟩,33,bnOf 0 ia⟩
abbrev g1:List Si:=[.ref 0 500000 yaA,.dat 3 (.slice (.int .u8)),.box 500000 (.d yaA)]
noncomputable def T:CT:=(.s .o (.s .o (.s .o (.s .o (.r g1 .o)))))
noncomputable def J1 (n:Nat):(List (Int))×yal×Unit→Option R:=jR (X n) n T (yaR Tryz.f235) (endK ia io) g1 [1,1,1,1] []
noncomputable def f (n:Nat)(r:yal):Option R:=fRun (X n) n T Tryz.f235 ia io (r,())
theorem e0 (n:Nat) (r:yal):f n r =
  bIf ((hide false)) (
    some (false,r,())
    ) (
    bnd (ybi.f n r 1) λu1=>
    bIf ((hide (u1.2.1.2.1==(0:Int)))) (
      gIf (0≤(0:Int)∧(0:Int)<((u1.1.length:Nat):Int)) (
        gNo ((1:Int)<0) (
          bIf ((hide ((shrI .u8 (List.getD u1.1 0 0) 1) != (0:Int)))) (
            bnd (ya0.f n u1.2.1 2) λu2=>
            J1 n (u1.1,u2.1,())
            ) (
            J1 n (u1.1,u1.2.1,())
            )
          )
        )
      ) (
      J1 n (u1.1,u1.2.1,())
      )
    ):=(yah _).trans (by kernel_rfl)
theorem e1 (n:Nat)(b:List (Int))(r:yal):J1 n (b,r,()) =
  bIf ((hide (r.2.1==(0:Int)))) (
    gIf (0≤(0:Int)∧(0:Int)<((b.length:Nat):Int)) (
      some ((hide ((List.getD b 0 0)==(1:Int))),r,())
      )
    ) (
    some (false,r,())
    ):=(yah _).trans (by kernel_rfl)
theorem phi (n:Nat):∀ e∈(X n).c.Φ,EntryOk Tryz.prog e:=yae (yac (ybi.ok n)) (yae (yac (ya0.ok n)) (yax))
theorem ok (n:Nat):FnOk Tryz.prog 235 ia io (fRun (X n) n T Tryz.f235 ia io):=yaH mixed tabIs (phi n) Tryz.func235 (by kernel_rfl) rfl
noncomputable def en (n:Nat):Entry:=yaD 235 ia io (fRun (X n) n T Tryz.f235 ia io)
end yaS
end Go.Proofs.YtdlkpmohjhjmfaaGreatDoor

namespace Go.Proofs.YtdlkpmohjhjmfaaGreatDoor
open Go Go.Va Go.Proofs
namespace ybV
abbrev ia:List Ai:=[.ptr (.d yaA)]
abbrev io:List (Nat×Oi):=[(2,.dat (.int .i64))]
abbrev R:Type:=DOut ia io
noncomputable def X (n:Nat):Ctx:=⟨⟨tab,[yaQ.en n,yeK.en n],0,[]⟩,6,bnOf 0 ia⟩
noncomputable def T:CT := .o
noncomputable def f (n:Nat)(r:yal):Option R:=fRun (X n) n T Tryz.f236 ia io (r,())
theorem e0 (n:Nat)(r:yal):f n r =
  bnd (yaQ.f n r) λu1=>
  bnd (yeK.f n u1.1) λu2=>
  some (u2.1,u1.2.1,()):=(yah _).trans (by kernel_rfl)
theorem phi (n:Nat):∀ e∈(X n).c.Φ,EntryOk Tryz.prog e:=yae (yac (yaQ.ok n)) (yae (yac (yeK.ok n)) (yax))
theorem ok (n:Nat):FnOk Tryz.prog 236 ia io (fRun (X n) n T Tryz.f236 ia io):=yaH mixed tabIs (phi n) Tryz.func236 (by kernel_rfl) rfl
noncomputable def en (n:Nat):Entry:=yaD 236 ia io (fRun (X n) n T Tryz.f236 ia io)
end ybV
end Go.Proofs.YtdlkpmohjhjmfaaGreatDoor

namespace Go.Proofs.YtdlkpmohjhjmfaaGreatDoor
open Go Go.Va Go.Proofs
namespace yar
abbrev ia:List Ai:=[.ptr (.d yaA)]
abbrev io:List (Nat×Oi):=[(2,.dat .str)]
abbrev R:Type:=DOut ia io
noncomputable def X (n:Nat):Ctx:=⟨⟨tab,[yaF.en n,ybi.en n],0,[]⟩,12,bnOf 0 ia⟩
noncomputable def T:CT := .o
noncomputable def f (n:Nat)(r:yal):Option R:=fRun (X n) n T Tryz.f155 ia io (r,())
theorem e0 (n:Nat)(r:yal):f n r =
  bnd (yaF.f n r 16384) λu1=>
  bIf ((hide false)) (
    some ((⟨#[]⟩:ByteArray),u1.2.1,())
    ) (
    bnd (ybi.f n u1.2.1 u1.1) λu2=>
    some ((ybp u2.1),u2.2.1,())
    ):=(yah _).trans (by kernel_rfl)
theorem phi (n:Nat):∀ e∈(X n).c.Φ,EntryOk Tryz.prog e:=yae (yac (yaF.ok n)) (yae (yac (ybi.ok n)) (yax))
theorem ok (n:Nat):FnOk Tryz.prog 155 ia io (fRun (X n) n T Tryz.f155 ia io):=yaH mixed tabIs (phi n) Tryz.func155 (by kernel_rfl) rfl
noncomputable def en (n:Nat):Entry:=yaD 155 ia io (fRun (X n) n T Tryz.f155 ia io)
end yar
end Go.Proofs.YtdlkpmohjhjmfaaGreatDoor

namespace Go.Proofs.YtdlkpmohjhjmfaaGreatDoor
open Go Go.Va Go.Proofs
namespace yb3
abbrev ia:List Ai:=[.fn (.str 1) [(.d yaA)]]
abbrev io:List (Nat×Oi):=[(2,.cel (.d yaz))]
abbrev R:Type:=DOut ia io
noncomputable def X (n:Nat):Ctx:=⟨⟨tab,[yaE.en n],0,[]⟩,11,bnOf 0 ia⟩
noncomputable def T:CT := .o
noncomputable def f (n:Nat)(rc0:yal):Option R:=fRun (X n) n T Tryz.f207 ia io (rc0,())
theorem e0 (n:Nat)(rc0:yal):f n rc0 =
  bnd (yaE.f n rc0) λu1=>
  bnd (yaE.f n u1.2.1) λu2=>
  some ((u1.1,(u2.1,())),u2.2.1,()):=(yah _).trans (by kernel_rfl)
theorem phi (n:Nat):∀ e∈(X n).c.Φ,EntryOk Tryz.prog e:=yae (yac (yaE.ok n)) (yax)
theorem ok (n:Nat):FnOk Tryz.prog 207 ia io (fRun (X n) n T Tryz.f207 ia io):=yaH mixed tabIs (phi n) Tryz.func207 (by kernel_rfl) rfl
noncomputable def en (n:Nat):Entry:=yaD 207 ia io (fRun (X n) n T Tryz.f207 ia io)
end yb3
end Go.Proofs.YtdlkpmohjhjmfaaGreatDoor

namespace Go.Proofs.YtdlkpmohjhjmfaaGreatDoor
open Go Go.Va Go.Proofs
namespace yaW
abbrev ia:List Ai:=[.fn (.str 1) [(.d yaA)]]
abbrev io:List (Nat×Oi):=[(2,.val (.r 0 yaI))]
abbrev R:Type:=DOut ia io
noncomputable def X (n:Nat):Ctx:=⟨⟨tab,[yar.en n,yaF.en n,yaS.en n],0,[]⟩,32,bnOf 0 ia⟩
abbrev g1:List Si:=[.ref 1 1 ycP,.val 3 (.r 200300 yaI),.dat 7 (.int .i64),.dat 8 (.int .i64),.box 1 (.p (.al 500000 yaA) (.d .unit)),.box 500000 (.d yaA)]
abbrev g2:List Si:=[.val 3 (.r 200300 yaI),.box 500000 (.d yaA)]
noncomputable def T:CT:=(.s .o (.s .o (.s (.s .o (.b (.l g1 .o))) (.r g2 .o))))
noncomputable def J1 (n:Nat)(m:Nat):(List (yag))×Int×Int×ycx×yal×Unit→Option R:=jL (X n) n T (yaR Tryz.f209) (endK ia io) g1 [1,1,0,1,0] [] m
noncomputable def J2 (n:Nat):(List (yag))×yal×Unit→Option R:=jR (X n) n T (yaR Tryz.f209) (endK ia io) g2 [1,1,1] []
noncomputable def f (n:Nat)(rc0:yal):Option R:=fRun (X n) n T Tryz.f209 ia io (rc0,())
theorem e0 (n:Nat)(rc0:yal):f n rc0 =
  bnd (yaF.f n rc0 8) λu1=>
  J1 n n ([],u1.1,0,((),()),u1.2.1,()):=(yah _).trans (by kernel_rfl)
theorem e1 (n m:Nat)(out:List (yag))(t7:Int)(t8:Int)(r:ycx)(b500000:yal):J1 n (m+1) (out,t7,t8,r,b500000,()) =
  bIf ((hide (decide (t8<t7)))) (
    bnd (yaS.f n b500000) λu1=>
    bnd (yar.f n u1.2.1) λu2=>
    bnd (yar.f n u2.2.1) λu3=>
    bnd (yar.f n u3.2.1) λu4=>
    gIf ((out.length+1)*56≤70368744177664) (
      J1 n m ((out++([(u1.1,(u2.1,(u3.1,(u4.1,()))))]:List (yag))),t7,(IntKind.i64.wrap (t8+(1:Int))),((),r.2),u4.2.1,())
      )
    ) (
    J2 n (out,b500000,())
    ):=(yah _).trans (by kernel_rfl)
theorem e2 (n:Nat)(out:List (yag))(b500000:yal):J2 n (out,b500000,()) =
  some (out,b500000,()):=(yah _).trans (by kernel_rfl)
theorem phi (n:Nat):∀ e∈(X n).c.Φ,EntryOk Tryz.prog e:=yae (yac (yar.ok n)) (yae (yac (yaF.ok n)) (yae (yac (yaS.ok n)) (yax)))
theorem ok (n:Nat):FnOk Tryz.prog 209 ia io (fRun (X n) n T Tryz.f209 ia io):=yaH mixed tabIs (phi n) Tryz.func209 (by kernel_rfl) rfl
noncomputable def en (n:Nat):Entry:=yaD 209 ia io (fRun (X n) n T Tryz.f209 ia io)
end yaW
end Go.Proofs.YtdlkpmohjhjmfaaGreatDoor

namespace Go.Proofs.YtdlkpmohjhjmfaaGreatDoor
open Go Go.Va Go.Proofs
namespace yby
abbrev ia:List Ai:=[.fn (.str 1) [(.d yaA)]]
abbrev io:List (Nat×Oi):=[(2,.cel (.d yaK))]
abbrev R:Type:=DOut ia io
noncomputable def X (n:Nat):Ctx:=⟨⟨tab,[yaE.en n,yaS.en n,ybV.en n],0,[]⟩,16,bnOf 0 ia⟩
noncomputable def T:CT := .o
noncomputable def f (n:Nat)(rc0:yal):Option R:=fRun (X n) n T Tryz.f212 ia io (rc0,())
theorem e0 (n:Nat)(rc0:yal):f n rc0 =
  bnd (yaE.f n rc0) λu1=>
  bnd (ybV.f n u1.2.1) λu2=>
  bnd (yaS.f n u2.2.1) λu3=>
  some ((u1.1,(u2.1,(u3.1,()))),u3.2.1,()):=(yah _).trans (by kernel_rfl)
theorem phi (n:Nat):∀ e∈(X n).c.Φ,EntryOk Tryz.prog e:=yae (yac (yaE.ok n)) (yae (yac (yaS.ok n)) (yae (yac (ybV.ok n)) (yax)))
theorem ok (n:Nat):FnOk Tryz.prog 212 ia io (fRun (X n) n T Tryz.f212 ia io):=yaH mixed tabIs (phi n) Tryz.func212 (by kernel_rfl) rfl
noncomputable def en (n:Nat):Entry:=yaD 212 ia io (fRun (X n) n T Tryz.f212 ia io)
end yby
end Go.Proofs.YtdlkpmohjhjmfaaGreatDoor

namespace Go.Proofs.YtdlkpmohjhjmfaaGreatDoor
open Go Go.Va Go.Proofs
namespace yaN
abbrev ia:List Ai:=[.fn (.str 1) [(.d yaA)]]
abbrev io:List (Nat×Oi):=[(2,.val (.r 0 yaL))]
abbrev R:Type:=DOut ia io
noncomputable def X (n:Nat):Ctx:=⟨⟨tab,[yar.en n,yaF.en n],0,[]⟩,23,bnOf 0 ia⟩
abbrev g1:List Si:=[.ref 1 1 ycP,.val 3 (.r 200300 yaL),.dat 7 (.int .i64),.dat 8 (.int .i64),.box 1 (.p (.al 500000 yaA) (.d .unit)),.box 500000 (.d yaA)]
abbrev g2:List Si:=[.val 3 (.r 200300 yaL),.box 500000 (.d yaA)]
noncomputable def T:CT:=(.s .o (.s .o (.s (.s .o (.b (.l g1 .o))) (.r g2 .o))))
noncomputable def J1 (n:Nat)(m:Nat):(List (yak))×Int×Int×ycx×yal×Unit→Option R:=jL (X n) n T (yaR Tryz.f211) (endK ia io) g1 [1,1,0,1,0] [] m
noncomputable def J2 (n:Nat):(List (yak))×yal×Unit→Option R:=jR (X n) n T (yaR Tryz.f211) (endK ia io) g2 [1,1,1] []
noncomputable def f (n:Nat)(rc0:yal):Option R:=fRun (X n) n T Tryz.f211 ia io (rc0,())
theorem e0 (n:Nat)(rc0:yal):f n rc0 =
  bnd (yaF.f n rc0 8) λu1=>
  J1 n n ([],u1.1,0,((),()),u1.2.1,()):=(yah _).trans (by kernel_rfl)
theorem e1 (n m:Nat)(out:List (yak))(t7:Int)(t8:Int)(r:ycx)(b500000:yal):J1 n (m+1) (out,t7,t8,r,b500000,()) =
  bIf ((hide (decide (t8<t7)))) (
    bnd (yar.f n b500000) λu1=>
    bnd (yar.f n u1.2.1) λu2=>
    gIf ((out.length+1)*32≤70368744177664) (
      J1 n m ((out++([(u1.1,(u2.1,()))]:List (yak))),t7,(IntKind.i64.wrap (t8+(1:Int))),((),r.2),u2.2.1,())
      )
    ) (
    J2 n (out,b500000,())
    ):=(yah _).trans (by kernel_rfl)
theorem e2 (n:Nat)(out:List (yak))(b500000:yal):J2 n (out,b500000,()) =
  some (out,b500000,()):=(yah _).trans (by kernel_rfl)
theorem phi (n:Nat):∀ e∈(X n).c.Φ,EntryOk Tryz.prog e:=yae (yac (yar.ok n)) (yae (yac (yaF.ok n)) (yax))
theorem ok (n:Nat):FnOk Tryz.prog 211 ia io (fRun (X n) n T Tryz.f211 ia io):=yaH mixed tabIs (phi n) Tryz.func211 (by kernel_rfl) rfl
noncomputable def en (n:Nat):Entry:=yaD 211 ia io (fRun (X n) n T Tryz.f211 ia io)
end yaN
end Go.Proofs.YtdlkpmohjhjmfaaGreatDoor

namespace Go.Proofs.YtdlkpmohjhjmfaaGreatDoor
open Go Go.Va Go.Proofs
namespace ya1
abbrev ia:List Ai:=[.fn (.str 1) [(.d yaA)]]
abbrev io:List (Nat×Oi):=[(2,.val (.r 0 yaG))]
abbrev R:Type:=DOut ia io
noncomputable def X (n:Nat):Ctx:=⟨⟨tab,[yaE.en n,yar.en n,yaF.en n,yaN.en n,yaS.en n],0,[]⟩,33,bnOf 0 ia⟩
abbrev g1:List Si:=[.ref 1 1 ycP,.val 3 (.r 200300 yaG),.dat 7 (.int .i64),.dat 8 (.int .i64),.box 1 (.p (.al 500000 yaA) (.d .unit)),.box 500000 (.d yaA)]
abbrev g2:List Si:=[.val 3 (.r 200300 yaG),.box 500000 (.d yaA)]
noncomputable def T:CT:=(.s .o (.s .o (.s (.s .o (.b (.l g1 .o))) (.r g2 .o))))
noncomputable def J1 (n:Nat)(m:Nat):(List (yai))×Int×Int×ycx×yal×Unit→Option R:=jL (X n) n T (yaR Tryz.f208) (endK ia io) g1 [1,1,0,1,0] [] m
noncomputable def J2 (n:Nat):(List (yai))×yal×Unit→Option R:=jR (X n) n T (yaR Tryz.f208) (endK ia io) g2 [1,1,1] []
noncomputable def f (n:Nat)(rc0:yal):Option R:=fRun (X n) n T Tryz.f208 ia io (rc0,())
theorem e0 (n:Nat)(rc0:yal):f n rc0 =
  bnd (yaF.f n rc0 8) λu1=>
  J1 n n ([],u1.1,0,((),()),u1.2.1,()):=(yah _).trans (by kernel_rfl)
theorem e1 (n m:Nat)(out:List (yai))(t7:Int)(t8:Int)(r:ycx)(b500000:yal):J1 n (m+1) (out,t7,t8,r,b500000,()) =
  bIf ((hide (decide (t8<t7)))) (
    bnd (yar.f n b500000) λu1=>
    bnd (yaN.f n u1.2.1) λu2=>
    bnd (yaE.f n u2.2.1) λu3=>
    bnd (yaE.f n u3.2.1) λu4=>
    bnd (yaS.f n u4.2.1) λu5=>
    gIf ((out.length+1)*64≤70368744177664) (
      J1 n m ((out++([(u1.1,(u2.1,(u3.1,(u4.1,(u5.1,())))))]:List (yai))),t7,(IntKind.i64.wrap (t8+(1:Int))),((),r.2),u5.2.1,())
      )
    ) (
    J2 n (out,b500000,())
    ):=(yah _).trans (by kernel_rfl)
theorem e2 (n:Nat)(out:List (yai))(b500000:yal):J2 n (out,b500000,()) =
  some (out,b500000,()):=(yah _).trans (by kernel_rfl)
theorem phi (n:Nat):∀ e∈(X n).c.Φ,EntryOk Tryz.prog e:=yae (yac (yaE.ok n)) (yae (yac (yar.ok n)) (yae (yac (yaF.ok n)) (yae (yac (yaN.ok n)) (yae (yac (yaS.ok n)) (yax)))))
theorem ok (n:Nat):FnOk Tryz.prog 208 ia io (fRun (X n) n T Tryz.f208 ia io):=yaH mixed tabIs (phi n) Tryz.func208 (by kernel_rfl) rfl
noncomputable def en (n:Nat):Entry:=yaD 208 ia io (fRun (X n) n T Tryz.f208 ia io)
end ya1
end Go.Proofs.YtdlkpmohjhjmfaaGreatDoor

namespace Go.Proofs.YtdlkpmohjhjmfaaGreatDoor
open Go Go.Va Go.Proofs
namespace ycW
abbrev ia:List Ai:=[.ptr (.d yaA)]
abbrev io:List (Nat×Oi):=[(2,.dat (.int .i64))]
abbrev R:Type:=DOut ia io
noncomputable def X (n:Nat):Ctx:=⟨⟨tab,[],0,[]⟩,9,bnOf 0 ia⟩
noncomputable def T:CT := .o
noncomputable def f (n:Nat)(r:yal):Option R:=fRun (X n) n T Tryz.f218 ia io (r,())
theorem e0 (n:Nat)(r:yal):f n r =
  bIf ((hide false)) (
    some (1,r,())
    ) (
    some (r.2.1,r,())
    ):=(yah _).trans (by kernel_rfl)
theorem phi (n:Nat):∀ e∈(X n).c.Φ,EntryOk Tryz.prog e:=yax
theorem ok (n:Nat):FnOk Tryz.prog 218 ia io (fRun (X n) n T Tryz.f218 ia io):=yaH mixed tabIs (phi n) Tryz.func218 (by kernel_rfl) rfl
noncomputable def en (n:Nat):Entry:=yaD 218 ia io (fRun (X n) n T Tryz.f218 ia io)
end ycW
end Go.Proofs.YtdlkpmohjhjmfaaGreatDoor

namespace Go.Proofs.YtdlkpmohjhjmfaaGreatDoor
open Go Go.Va Go.Proofs
namespace ycH
abbrev ia:List Ai:=[.ptr (.d yaA)]
abbrev io:List (Nat×Oi):=[(2,.dat (.int .i64))]
abbrev R:Type:=DOut ia io
noncomputable def X (n:Nat):Ctx:=⟨⟨tab,[ya0.en n,ycW.en n],0,[]⟩,24,bnOf 0 ia⟩
abbrev g1:List Si:=[.ref 0 500000 yaA,.box 500000 (.d yaA)]
noncomputable def T:CT:=(.s .o (.s .o (.r g1 .o)))
noncomputable def J1 (n:Nat):yal×Unit→Option R:=jR (X n) n T (yaR Tryz.f157) (endK ia io) g1 [1,1] []
noncomputable def f (n:Nat)(r:yal):Option R:=fRun (X n) n T Tryz.f157 ia io (r,())
theorem e0 (n:Nat) (r:yal):f n r =
  bIf ((hide true)) (
    bIf ((hide (r.2.1==(0:Int)))) (
      bIf ((hide (decide (((r.1.length:Nat):Int)>(0:Int))))) (
        bnd (ya0.f n r 2) λu1=>
        J1 n (u1.1,())
        ) (
        J1 n (r,())
        )
      ) (
      J1 n (r,())
      )
    ) (
    J1 n (r,())
    ):=(yah _).trans (by kernel_rfl)
theorem e1 (n:Nat)(r:yal):J1 n (r,()) =
  bnd (ycW.f n r) λu1=>
  some (u1.1,u1.2.1,()):=(yah _).trans (by kernel_rfl)
theorem phi (n:Nat):∀ e∈(X n).c.Φ,EntryOk Tryz.prog e:=yae (yac (ya0.ok n)) (yae (yac (ycW.ok n)) (yax))
theorem ok (n:Nat):FnOk Tryz.prog 157 ia io (fRun (X n) n T Tryz.f157 ia io):=yaH mixed tabIs (phi n) Tryz.func157 (by kernel_rfl) rfl
noncomputable def en (n:Nat):Entry:=yaD 157 ia io (fRun (X n) n T Tryz.f157 ia io)
end ycH
end Go.Proofs.YtdlkpmohjhjmfaaGreatDoor

namespace Go.Proofs.YtdlkpmohjhjmfaaGreatDoor
open Go Go.Va Go.Proofs
namespace ya2
abbrev ia:List Ai:=[.dat (.int .i64)]
abbrev io:List (Nat×Oi):=[(2,.dat .bool)]
abbrev R:Type:=DOut ia io
noncomputable def X (n:Nat):Ctx:=⟨⟨tab,[],0,[]⟩,9,bnOf 0 ia⟩
noncomputable def T:CT := .o
noncomputable def f (n:Nat)(kind:Int):Option R:=fRun (X n) n T Tryz.f130 ia io (kind,())
theorem e0 (n:Nat)(kind:Int):f n kind =
  bIf ((hide (kind==(21:Int)))) (
    some (true,())
    ) (
    some ((hide (kind==(22:Int))),())
    ):=(yah _).trans (by kernel_rfl)
theorem phi (n:Nat):∀ e∈(X n).c.Φ,EntryOk Tryz.prog e:=yax
theorem ok (n:Nat):FnOk Tryz.prog 130 ia io (fRun (X n) n T Tryz.f130 ia io):=yaH mixed tabIs (phi n) Tryz.func130 (by kernel_rfl) rfl
noncomputable def en (n:Nat):Entry:=yaD 130 ia io (fRun (X n) n T Tryz.f130 ia io)
end ya2
end Go.Proofs.YtdlkpmohjhjmfaaGreatDoor

namespace Go.Proofs.YtdlkpmohjhjmfaaGreatDoor
open Go Go.Va Go.Proofs
namespace yeh
abbrev ia:List Ai:=[.dat yav]
abbrev io:List (Nat×Oi):=[(2,.dat .bool)]
abbrev R:Type:=DOut ia io
noncomputable def X (n:Nat):Ctx:=⟨⟨tab,[],0,[]⟩,89,bnOf 0 ia⟩
noncomputable def T:CT := .o
noncomputable def f (n:Nat)(r:yap):Option R:=fRun (X n) n T Tryz.f133 ia io (r,())
theorem e0 (n : Nat) (r : yap):f n r =
  bIf ((hide (eqS r.2.2.2.1 (⟨#[]⟩:ByteArray)))) (
    bIf ((hide (r.2.2.2.2.1 == (0:Int)))) (
      bIf ((hide (((r.2.2.2.2.2.1.length:Nat):Int)==(0:Int)))) (
        bIf ((hide (((r.2.2.2.2.2.2.1.length:Nat):Int)==(0:Int)))) (
          bIf ((hide (eqD yaK r.2.2.2.2.2.2.2.1 (0,(0,(false,())))))) (
            bIf ((!r.2.2.2.2.2.2.2.2.1)) (
              bIf ((hide (eqD yaz r.2.2.2.2.2.2.2.2.2.1 (0,(0,()))))) (
                bIf ((hide (((r.2.2.2.2.2.2.2.2.2.2.1.length:Nat):Int)==(0:Int)))) (
                  bIf ((hide (((r.2.2.2.2.2.2.2.2.2.2.2.1.length:Nat):Int)==(0:Int)))) (
                    bIf ((hide (r.2.2.2.2.2.2.2.2.2.2.2.2.1==(0:Int)))) (
                      bIf ((hide (((r.2.2.2.2.2.2.2.2.2.2.2.2.2.1.length:Nat):Int)==(0:Int)))) (
                        bIf ((hide (eqS r.2.2.2.2.2.2.2.2.2.2.2.2.2.2.1 (⟨#[]⟩:ByteArray)))) (
                          bIf ((hide (eqS r.2.2.2.2.2.2.2.2.2.2.2.2.2.2.2.1 (⟨#[]⟩:ByteArray)))) (
                            bIf ((hide (eqS r.2.2.2.2.2.2.2.2.2.2.2.2.2.2.2.2.1 (⟨#[]⟩:ByteArray)))) (
                              bIf ((hide (eqD yaU r.2.2.2.2.2.2.2.2.2.2.2.2.2.2.2.2.2.1 ((⟨#[]⟩:ByteArray),((⟨#[]⟩:ByteArray),(0,())))))) (
                                some ((hide (r.2.2.2.2.2.2.2.2.2.2.2.2.2.2.2.2.2.2.1==(0:Int))),())
                                ) (
                                some (false,())
                                )
                              ) (
                              some (false,())
                              )
                            ) (
                            some (false,())
                            )
                          ) (
                          some (false,())
                          )
                        ) (
                        some (false,())
                        )
                      ) (
                      some (false,())
                      )
                    ) (
                    some (false,())
                    )
                  ) (
                  some (false,())
                  )
                ) (
                some (false,())
                )
              ) (
              some (false,())
              )
            ) (
            some (false,())
            )
          ) (
          some (false,())
          )
        ) (
        some (false,())
        )
      ) (
      some (false,())
      )
    ) (
    some (false,())
    ):=(yah _).trans (by kernel_rfl)
theorem phi (n:Nat):∀ e∈(X n).c.Φ,EntryOk Tryz.prog e:=yax
theorem ok (n:Nat):FnOk Tryz.prog 133 ia io (fRun (X n) n T Tryz.f133 ia io):=yaH mixed tabIs (phi n) Tryz.func133 (by kernel_rfl) rfl
noncomputable def en (n:Nat):Entry:=yaD 133 ia io (fRun (X n) n T Tryz.f133 ia io)
end yeh
end Go.Proofs.YtdlkpmohjhjmfaaGreatDoor

namespace Go.Proofs.YtdlkpmohjhjmfaaGreatDoor
open Go Go.Va Go.Proofs
namespace yc6
abbrev ia:List Ai:=[.dat .str]
abbrev io:List (Nat×Oi):=[(2,.dat .bool)]
abbrev R:Type:=DOut ia io
noncomputable def X (n:Nat):Ctx:=⟨⟨tab,[ybc.en n],0,[]⟩,10,bnOf 0 ia⟩
noncomputable def T:CT := .o
noncomputable def f (n:Nat)(s_:ByteArray):Option R:=fRun (X n) n T Tryz.f191 ia io (s_,())
theorem e0 (n:Nat)(s_:ByteArray):f n s_ =
  bIf ((hide (decide ((s_.size:Int)≤(200:Int))))) (
    bnd (ybc.f n s_) λu1=>
    some (u1.1,())
    ) (
    some (false,())
    ):=(yah _).trans (by kernel_rfl)
theorem phi (n:Nat):∀ e∈(X n).c.Φ,EntryOk Tryz.prog e:=yae (yac (ybc.ok n)) (yax)
theorem ok (n:Nat):FnOk Tryz.prog 191 ia io (fRun (X n) n T Tryz.f191 ia io):=yaH mixed tabIs (phi n) Tryz.func191 (by kernel_rfl) rfl
noncomputable def en (n:Nat):Entry:=yaD 191 ia io (fRun (X n) n T Tryz.f191 ia io)
end yc6
end Go.Proofs.YtdlkpmohjhjmfaaGreatDoor

namespace Go.Proofs.YtdlkpmohjhjmfaaGreatDoor
open Go Go.Va Go.Proofs
namespace yaB
abbrev ia:List Ai:=[.ptr (.d ybd),.dat .bool]
abbrev io:List (Nat×Oi):=[(4,.arg 0 500000 (.d ybd))]
abbrev R:Type:=DOut ia io
noncomputable def X (n:Nat):Ctx:=⟨⟨tab,[],0,[]⟩,16,bnOf 0 ia⟩
noncomputable def T:CT := .o
noncomputable def f (n:Nat)(s_:ybh)(ok_:Bool):Option R:=fRun (X n) n T Tryz.f180 ia io (s_,ok_,())
theorem e0 (n:Nat)(s_:ybh)(ok_:Bool):f n s_ ok_ =
  bIf (s_.2.1) (
    some ((s_.1,(ok_,s_.2.2)),())
    ) (
    some ((s_.1,(false,s_.2.2)),())
    ):=(yah _).trans (by kernel_rfl)
theorem phi (n:Nat):∀ e∈(X n).c.Φ,EntryOk Tryz.prog e:=yax
theorem ok (n:Nat):FnOk Tryz.prog 180 ia io (fRun (X n) n T Tryz.f180 ia io):=yaH mixed tabIs (phi n) Tryz.func180 (by kernel_rfl) rfl
noncomputable def en (n:Nat):Entry:=yaD 180 ia io (fRun (X n) n T Tryz.f180 ia io)
end yaB
end Go.Proofs.YtdlkpmohjhjmfaaGreatDoor

namespace Go.Proofs.YtdlkpmohjhjmfaaGreatDoor
open Go Go.Va Go.Proofs
namespace ycG
abbrev ia:List Ai:=[.ptr (.d ybd)]
abbrev io:List (Nat×Oi):=[(2,.arg 0 500000 (.d ybd))]
abbrev R:Type:=DOut ia io
noncomputable def X (n:Nat):Ctx:=⟨⟨tab,[yaB.en n],0,[]⟩,16,bnOf 0 ia⟩
noncomputable def T:CT := .o
noncomputable def f (n:Nat)(s_:ybh):Option R:=fRun (X n) n T Tryz.f185 ia io (s_,())
theorem e0 (n:Nat)(s_:ybh):f n s_ =
  bnd (yaB.f n s_ (hide (decide (((s_.1.2.2.2.2.2.1.length:Nat):Int)≤(1024:Int))))) λu1=>
  some (((u1.1.1.1,(u1.1.1.2.1,(u1.1.1.2.2.1,(u1.1.1.2.2.2.1,(u1.1.1.2.2.2.2.1,([],u1.1.1.2.2.2.2.2.2)))))),u1.1.2),()):=(yah _).trans (by kernel_rfl)
theorem phi (n:Nat):∀ e∈(X n).c.Φ,EntryOk Tryz.prog e:=yae (yac (yaB.ok n)) (yax)
theorem ok (n:Nat):FnOk Tryz.prog 185 ia io (fRun (X n) n T Tryz.f185 ia io):=yaH mixed tabIs (phi n) Tryz.func185 (by kernel_rfl) rfl
noncomputable def en (n:Nat):Entry:=yaD 185 ia io (fRun (X n) n T Tryz.f185 ia io)
end ycG
end Go.Proofs.YtdlkpmohjhjmfaaGreatDoor

namespace Go.Proofs.YtdlkpmohjhjmfaaGreatDoor
open Go Go.Va Go.Proofs
namespace ycp
abbrev ia:List Ai:=[.ptr (.d ybd)]
abbrev io:List (Nat×Oi):=[(2,.arg 0 500000 (.d ybd))]
abbrev R:Type:=DOut ia io
noncomputable def X (n:Nat):Ctx:=⟨⟨tab,[],0,[]⟩,8,bnOf 0 ia⟩
noncomputable def T:CT := .o
noncomputable def f (n:Nat)(s_:ybh):Option R:=fRun (X n) n T Tryz.f189 ia io (s_,())
theorem e0 (n:Nat)(s_:ybh):f n s_ =
  some (((s_.1.1,(s_.1.2.1,(s_.1.2.2.1,(s_.1.2.2.2.1,(s_.1.2.2.2.2.1,(s_.1.2.2.2.2.2.1,(s_.1.2.2.2.2.2.2.1,(s_.1.2.2.2.2.2.2.2.1,(false,s_.1.2.2.2.2.2.2.2.2.2))))))))),s_.2),()):=(yah _).trans (by kernel_rfl)
theorem phi (n:Nat):∀ e∈(X n).c.Φ,EntryOk Tryz.prog e:=yax
theorem ok (n:Nat):FnOk Tryz.prog 189 ia io (fRun (X n) n T Tryz.f189 ia io):=yaH mixed tabIs (phi n) Tryz.func189 (by kernel_rfl) rfl
noncomputable def en (n:Nat):Entry:=yaD 189 ia io (fRun (X n) n T Tryz.f189 ia io)
end ycp
end Go.Proofs.YtdlkpmohjhjmfaaGreatDoor

namespace Go.Proofs.YtdlkpmohjhjmfaaGreatDoor
open Go Go.Va Go.Proofs
namespace yb9
abbrev ia:List Ai:=[.ptr (.d ybd),.dat .bool]
abbrev io:List (Nat×Oi):=[(4,.arg 0 500000 (.d ybd))]
abbrev R:Type:=DOut ia io
noncomputable def X (n:Nat):Ctx:=⟨⟨tab,[yaB.en n],0,[]⟩,13,bnOf 0 ia⟩
noncomputable def T:CT := .o
noncomputable def f (n:Nat)(s_:ybh)(ok_:Bool):Option R:=fRun (X n) n T Tryz.f192 ia io (s_,ok_,())
theorem e0 (n:Nat)(s_:ybh)(ok_:Bool):f n s_ ok_ =
  bnd (yaB.f n s_ ok_) λu1=>
  some (((u1.1.1.1,(u1.1.1.2.1,(u1.1.1.2.2.1,(u1.1.1.2.2.2.1,(u1.1.1.2.2.2.2.1,(u1.1.1.2.2.2.2.2.1,(u1.1.1.2.2.2.2.2.2.1,(u1.1.1.2.2.2.2.2.2.2.1,(u1.1.1.2.2.2.2.2.2.2.2.1,(u1.1.1.2.2.2.2.2.2.2.2.2.1,(u1.1.1.2.2.2.2.2.2.2.2.2.2.1,(u1.1.1.2.2.2.2.2.2.2.2.2.2.2.1,(u1.1.1.2.2.2.2.2.2.2.2.2.2.2.2.1,(u1.1.1.2.2.2.2.2.2.2.2.2.2.2.2.2.1,(u1.1.1.2.2.2.2.2.2.2.2.2.2.2.2.2.2.1,(u1.1.1.2.2.2.2.2.2.2.2.2.2.2.2.2.2.2.1,(u1.1.1.2.2.2.2.2.2.2.2.2.2.2.2.2.2.2.2.1,(((⟨#[]⟩:ByteArray),((⟨#[]⟩:ByteArray),(0,()))),u1.1.1.2.2.2.2.2.2.2.2.2.2.2.2.2.2.2.2.2.2)))))))))))))))))),u1.1.2),()):=(yah _).trans (by kernel_rfl)
theorem phi (n:Nat):∀ e∈(X n).c.Φ,EntryOk Tryz.prog e:=yae (yac (yaB.ok n)) (yax)
theorem ok (n:Nat):FnOk Tryz.prog 192 ia io (fRun (X n) n T Tryz.f192 ia io):=yaH mixed tabIs (phi n) Tryz.func192 (by kernel_rfl) rfl
noncomputable def en (n:Nat):Entry:=yaD 192 ia io (fRun (X n) n T Tryz.f192 ia io)
end yb9
end Go.Proofs.YtdlkpmohjhjmfaaGreatDoor

namespace Go.Proofs.YtdlkpmohjhjmfaaGreatDoor
open Go Go.Va Go.Proofs
namespace yb2
abbrev ia:List Ai:=[.ptr (.d ybd),.dat (.int .u64)]
abbrev io:List (Nat×Oi):=[(4,.arg 0 500000 (.d ybd))]
abbrev R:Type:=DOut ia io
noncomputable def X (n:Nat):Ctx:=⟨⟨tab,[yaB.en n],0,[]⟩,18,bnOf 0 ia⟩
noncomputable def T:CT := .o
noncomputable def f (n:Nat)(s_:ybh)(least:Int):Option R:=fRun (X n) n T Tryz.f188 ia io (s_,least,())
theorem e0 (n:Nat)(s_:ybh)(least:Int):f n s_ least =
  bnd (yaB.f n s_ (hide (decide (s_.1.2.2.2.2.1≥least)))) λu1=>
  some (((u1.1.1.1,(u1.1.1.2.1,(u1.1.1.2.2.1,(u1.1.1.2.2.2.1,(0,u1.1.1.2.2.2.2.2))))),u1.1.2),()):=(yah _).trans (by kernel_rfl)
theorem phi (n:Nat):∀ e∈(X n).c.Φ,EntryOk Tryz.prog e:=yae (yac (yaB.ok n)) (yax)
theorem ok (n:Nat):FnOk Tryz.prog 188 ia io (fRun (X n) n T Tryz.f188 ia io):=yaH mixed tabIs (phi n) Tryz.func188 (by kernel_rfl) rfl
noncomputable def en (n:Nat):Entry:=yaD 188 ia io (fRun (X n) n T Tryz.f188 ia io)
end yb2
end Go.Proofs.YtdlkpmohjhjmfaaGreatDoor

namespace Go.Proofs.YtdlkpmohjhjmfaaGreatDoor
open Go Go.Va Go.Proofs
namespace ybI
abbrev ia:List Ai:=[.ptr (.d ybd)]
abbrev io:List (Nat×Oi):=[(2,.arg 0 500000 (.d ybd))]
abbrev R:Type:=DOut ia io
noncomputable def X (n:Nat):Ctx:=⟨⟨tab,[yaB.en n,ydq.en n],0,[]⟩,15,bnOf 0 ia⟩
noncomputable def T:CT := .o
noncomputable def f (n:Nat)(s_:ybh):Option R:=fRun (X n) n T Tryz.f184 ia io (s_,())
theorem e0 (n:Nat)(s_:ybh):f n s_ =
  bnd (ydq.f n s_.1.2.2.2.1) λu1=>
  bnd (yaB.f n s_ u1.1) λu2=>
  some (((u2.1.1.1,(u2.1.1.2.1,(u2.1.1.2.2.1,((⟨#[]⟩:ByteArray),u2.1.1.2.2.2.2)))),u2.1.2),()):=(yah _).trans (by kernel_rfl)
theorem phi (n:Nat):∀ e∈(X n).c.Φ,EntryOk Tryz.prog e:=yae (yac (yaB.ok n)) (yae (yac (ydq.ok n)) (yax))
theorem ok (n:Nat):FnOk Tryz.prog 184 ia io (fRun (X n) n T Tryz.f184 ia io):=yaH mixed tabIs (phi n) Tryz.func184 (by kernel_rfl) rfl
noncomputable def en (n:Nat):Entry:=yaD 184 ia io (fRun (X n) n T Tryz.f184 ia io)
end ybI
end Go.Proofs.YtdlkpmohjhjmfaaGreatDoor

namespace Go.Proofs.YtdlkpmohjhjmfaaGreatDoor
open Go Go.Va Go.Proofs
namespace ycy
abbrev ia:List Ai:=[.ptr (.d ybd),.dat .bool]
abbrev io:List (Nat×Oi):=[(4,.arg 0 500000 (.d ybd))]
abbrev R:Type:=DOut ia io
noncomputable def X (n:Nat):Ctx:=⟨⟨tab,[ycZ.en n,yaB.en n],0,[]⟩,21,bnOf 0 ia⟩
noncomputable def T:CT := .o
noncomputable def f (n:Nat)(s_:ybh)(ok_:Bool):Option R:=fRun (X n) n T Tryz.f187 ia io (s_,ok_,())
theorem e0 (n:Nat)(s_:ybh)(ok_:Bool):f n s_ ok_ =
  bnd (ycZ.f n s_.1.2.2.2.2.2.2.2.1) λu1=>
  bIf (u1.1) (
    bnd (yaB.f n s_ ok_) λu2=>
    some (((u2.1.1.1,(u2.1.1.2.1,(u2.1.1.2.2.1,(u2.1.1.2.2.2.1,(u2.1.1.2.2.2.2.1,(u2.1.1.2.2.2.2.2.1,(u2.1.1.2.2.2.2.2.2.1,((0,(0,(false,()))),u2.1.1.2.2.2.2.2.2.2.2)))))))),u2.1.2),())
    ) (
    bnd (yaB.f n s_ false) λu3=>
    some (((u3.1.1.1,(u3.1.1.2.1,(u3.1.1.2.2.1,(u3.1.1.2.2.2.1,(u3.1.1.2.2.2.2.1,(u3.1.1.2.2.2.2.2.1,(u3.1.1.2.2.2.2.2.2.1,((0,(0,(false,()))),u3.1.1.2.2.2.2.2.2.2.2)))))))),u3.1.2),())
    ):=(yah _).trans (by kernel_rfl)
theorem phi (n:Nat):∀ e∈(X n).c.Φ,EntryOk Tryz.prog e:=yae (yac (ycZ.ok n)) (yae (yac (yaB.ok n)) (yax))
theorem ok (n:Nat):FnOk Tryz.prog 187 ia io (fRun (X n) n T Tryz.f187 ia io):=yaH mixed tabIs (phi n) Tryz.func187 (by kernel_rfl) rfl
noncomputable def en (n:Nat):Entry:=yaD 187 ia io (fRun (X n) n T Tryz.f187 ia io)
end ycy
end Go.Proofs.YtdlkpmohjhjmfaaGreatDoor

namespace Go.Proofs.YtdlkpmohjhjmfaaGreatDoor
open Go Go.Va Go.Proofs
namespace ycw
abbrev ia:List Ai:=[.ptr (.d ybd)]
abbrev io:List (Nat×Oi):=[(2,.arg 0 500000 (.d ybd))]
abbrev R:Type:=DOut ia io
noncomputable def X (n:Nat):Ctx:=⟨⟨tab,[yaB.en n,yc6.en n],0,[]⟩,36,bnOf 0 ia⟩
abbrev g1:List Si:=[.ref 0 500000 ybd,.box 500000 (.d ybd)]
noncomputable def T:CT:=(.s .o (.s .o (.r g1 .o)))
noncomputable def J1 (n:Nat):ybh×Unit→Option R:=jR (X n) n T (yaR Tryz.f190) (endK ia io) g1 [1,1] []
noncomputable def f (n:Nat)(s_:ybh):Option R:=fRun (X n) n T Tryz.f190 ia io (s_,())
theorem e0 (n:Nat)(s_:ybh):f n s_ =
  bnd (yc6.f n s_.1.2.2.2.2.2.2.2.2.2.2.2.2.2.2.2.1) λu1=>
  bIf (u1.1) (
    bIf ((hide (decide (s_.1.2.2.2.2.2.2.2.2.2.2.2.2.2.2.2.2.2.2.1≥(1:Int))))) (
      bnd (yaB.f n s_ (hide (decide (s_.1.2.2.2.2.2.2.2.2.2.2.2.2.2.2.2.2.2.2.1≤(100:Int))))) λu2=>
      J1 n (u2.1,())
      ) (
      bnd (yaB.f n s_ false) λu3=>
      J1 n (u3.1,())
      )
    ) (
    bnd (yaB.f n s_ false) λu4=>
    J1 n (u4.1,())
    ):=(yah _).trans (by kernel_rfl)
theorem e1 (n:Nat)(s_:ybh):J1 n (s_,()) =
  some (((s_.1.1,(s_.1.2.1,(s_.1.2.2.1,(s_.1.2.2.2.1,(s_.1.2.2.2.2.1,(s_.1.2.2.2.2.2.1,(s_.1.2.2.2.2.2.2.1,(s_.1.2.2.2.2.2.2.2.1,(s_.1.2.2.2.2.2.2.2.2.1,(s_.1.2.2.2.2.2.2.2.2.2.1,(s_.1.2.2.2.2.2.2.2.2.2.2.1,(s_.1.2.2.2.2.2.2.2.2.2.2.2.1,(s_.1.2.2.2.2.2.2.2.2.2.2.2.2.1,(s_.1.2.2.2.2.2.2.2.2.2.2.2.2.2.1,(s_.1.2.2.2.2.2.2.2.2.2.2.2.2.2.2.1,((⟨#[]⟩:ByteArray),(s_.1.2.2.2.2.2.2.2.2.2.2.2.2.2.2.2.2.1,(s_.1.2.2.2.2.2.2.2.2.2.2.2.2.2.2.2.2.2.1,(0,s_.1.2.2.2.2.2.2.2.2.2.2.2.2.2.2.2.2.2.2.2))))))))))))))))))),s_.2),()):=(yah _).trans (by kernel_rfl)
theorem phi (n:Nat):∀ e∈(X n).c.Φ,EntryOk Tryz.prog e:=yae (yac (yaB.ok n)) (yae (yac (yc6.ok n)) (yax))
theorem ok (n:Nat):FnOk Tryz.prog 190 ia io (fRun (X n) n T Tryz.f190 ia io):=yaH mixed tabIs (phi n) Tryz.func190 (by kernel_rfl) rfl
noncomputable def en (n:Nat):Entry:=yaD 190 ia io (fRun (X n) n T Tryz.f190 ia io)
end ycw
end Go.Proofs.YtdlkpmohjhjmfaaGreatDoor

namespace Go.Proofs.YtdlkpmohjhjmfaaGreatDoor
open Go Go.Va Go.Proofs
namespace ycz
abbrev ia:List Ai:=[.ptr (.d ybd)]
abbrev io:List (Nat×Oi):=[(2,.arg 0 500000 (.d ybd))]
abbrev R:Type:=DOut ia io
noncomputable def X (n:Nat):Ctx:=⟨⟨tab,[ycd.en n,yaB.en n],0,[]⟩,15,bnOf 0 ia⟩
noncomputable def T:CT := .o
noncomputable def f (n:Nat)(s_:ybh):Option R:=fRun (X n) n T Tryz.f186 ia io (s_,())
theorem e0 (n:Nat)(s_:ybh):f n s_ =
  bnd (ycd.f n s_.1.2.2.2.2.2.2.1) λu1=>
  bnd (yaB.f n s_ u1.1) λu2=>
  some (((u2.1.1.1,(u2.1.1.2.1,(u2.1.1.2.2.1,(u2.1.1.2.2.2.1,(u2.1.1.2.2.2.2.1,(u2.1.1.2.2.2.2.2.1,([],u2.1.1.2.2.2.2.2.2.2))))))),u2.1.2),()):=(yah _).trans (by kernel_rfl)
theorem phi (n:Nat):∀ e∈(X n).c.Φ,EntryOk Tryz.prog e:=yae (yac (ycd.ok n)) (yae (yac (yaB.ok n)) (yax))
theorem ok (n:Nat):FnOk Tryz.prog 186 ia io (fRun (X n) n T Tryz.f186 ia io):=yaH mixed tabIs (phi n) Tryz.func186 (by kernel_rfl) rfl
noncomputable def en (n:Nat):Entry:=yaD 186 ia io (fRun (X n) n T Tryz.f186 ia io)
end ycz
end Go.Proofs.YtdlkpmohjhjmfaaGreatDoor

namespace Go.Proofs.YtdlkpmohjhjmfaaGreatDoor
open Go Go.Va Go.Proofs
namespace yab
abbrev ia:List Ai:=[.ptr (.d ybd)]
abbrev io:List (Nat×Oi):=[]
abbrev R:Type:=DOut ia io
noncomputable def X (n:Nat):Ctx:=⟨⟨tab,[ybM.en n,yaB.en n,ydZ.en n,ydJ.en n,ydy.en n,ybI.en n,ycG.en n,ycz.en n,ycy.en n,yb2.en n,ycp.en n,ycw.en n,yc6.en n,yb9.en n,ydq.en n],0,[]⟩,192,bnOf 0 ia⟩
abbrev g1:List Si:=[.ref 0 500000 ybd,.ref 2 2 yav,.dat 8 (.int .i64),.dat 11 .bool,.box 2 (.d yav),.box 500000 (.d ybd)]
abbrev g2:List Si:=[.ref 0 500000 ybd,.ref 2 2 yav,.dat 8 (.int .i64),.dat 23 .bool,.box 2 (.d yav),.box 500000 (.d ybd)]
abbrev g3:List Si:=[.ref 0 500000 ybd,.ref 2 2 yav,.dat 8 (.int .i64),.dat 54 .bool,.box 2 (.d yav),.box 500000 (.d ybd)]
abbrev g4:List Si:=[.ref 0 500000 ybd,.box 500000 (.d ybd)]
noncomputable def T:CT:=(.s .o (.s .o (.b (.s .o (.r g1 (.c .o (.s .o (.r g2 (.c .o (.s .o (.c .o (.s .o (.c .o (.s .o (.c .o (.s .o (.r g3 (.c .o (.s .o (.c .o (.s .o (.c .o (.s .o (.c .o (.s .o (.c .o (.s .o (.c .o (.s .o (.c (.s .o (.r g4 .o)) .o))))))))))))))))))))))))))))))
noncomputable def J1 (n:Nat):Int×Bool×yap×ybh×Unit→Option R:=jR (X n) n T (yaR Tryz.f132) (endK ia io) g1 [1,1,0,1] []
noncomputable def J2 (n:Nat):Int×Bool×yap×ybh×Unit→Option R:=jR (X n) n T (yaR Tryz.f132) (endK ia io) g2 [1,1,0,1,1,1] []
noncomputable def J3 (n:Nat):Int×Bool×yap×ybh×Unit→Option R:=jR (X n) n T (yaR Tryz.f132) (endK ia io) g3 [1,1,0,1,1,1,1,1,1,1,1,1,1,1] []
noncomputable def J4 (n:Nat):ybh×Unit→Option R:=jR (X n) n T (yaR Tryz.f132) (endK ia io) g4 [1,1,0,1,1,1,1,1,1,1,1,1,1,1,1,1,1,1,1,1,1,1,1,1,1,1,0,1] []
noncomputable def f (n:Nat)(t:ybh):Option R:=fRun (X n) n T Tryz.f132 ia io (t,())
theorem e0 (n:Nat)(t:ybh):f n t =
  bIf ((hide (t.1.1==(1:Int)))) (
    J1 n (t.1.1,true,t.1,t,())
    ) (
    J1 n (t.1.1,(hide (t.1.1==(3:Int))),t.1,t,())
    ):=(yah _).trans (by kernel_rfl)
theorem e1 (n:Nat) (t8:Int) (t11:Bool) (A:yap) (t:ybh):J1 n (t8,t11,A,t,()) =
  bIf (t11) (
    bnd (ydZ.f n A.2.2.2.2.2.2.2.2.2.1) λu1=>
    bnd (yaB.f n t u1.1) λu2=>
    some (((u2.1.1.1,(u2.1.1.2.1,(u2.1.1.2.2.1,(u2.1.1.2.2.2.1,(u2.1.1.2.2.2.2.1,(u2.1.1.2.2.2.2.2.1,(u2.1.1.2.2.2.2.2.2.1,(u2.1.1.2.2.2.2.2.2.2.1,(u2.1.1.2.2.2.2.2.2.2.2.1,((0,(0,())),u2.1.1.2.2.2.2.2.2.2.2.2.2)))))))))),u2.1.2),())
    ) (
    bIf ((hide (t8==(2:Int)))) (
      J2 n (t8,true,A,t,())
      ) (
      bIf ((hide (t8==(21:Int)))) (
        J2 n (t8,true,A,t,())
        ) (
        J2 n (t8,(hide (t8==(22:Int))),A,t,())
        )
      )
    ):=(yah _).trans (by kernel_rfl)
theorem e2 (n:Nat) (t8:Int) (t23:Bool) (A:yap) (t:ybh):J2 n (t8,t23,A,t,()) =
  bIf (t23) (
    some (t,())
    ) (
    bIf ((hide (t8==(4:Int)))) (
      bnd (ydJ.f n A.2.2.2.2.2.2.2.2.2.2.1) λu1=>
      bnd (yaB.f n t u1.1) λu2=>
      some (((u2.1.1.1,(u2.1.1.2.1,(u2.1.1.2.2.1,(u2.1.1.2.2.2.1,(u2.1.1.2.2.2.2.1,(u2.1.1.2.2.2.2.2.1,(u2.1.1.2.2.2.2.2.2.1,(u2.1.1.2.2.2.2.2.2.2.1,(u2.1.1.2.2.2.2.2.2.2.2.1,(u2.1.1.2.2.2.2.2.2.2.2.2.1,([],u2.1.1.2.2.2.2.2.2.2.2.2.2.2))))))))))),u2.1.2),())
      ) (
      bIf ((hide (t8==(5:Int)))) (
        bnd (ydy.f n A.2.2.2.2.2.2.2.2.2.2.2.1) λu3=>
        bnd (yaB.f n t u3.1) λu4=>
        some (((u4.1.1.1,(u4.1.1.2.1,(u4.1.1.2.2.1,(u4.1.1.2.2.2.1,(u4.1.1.2.2.2.2.1,(u4.1.1.2.2.2.2.2.1,(u4.1.1.2.2.2.2.2.2.1,(u4.1.1.2.2.2.2.2.2.2.1,(u4.1.1.2.2.2.2.2.2.2.2.1,(u4.1.1.2.2.2.2.2.2.2.2.2.1,(u4.1.1.2.2.2.2.2.2.2.2.2.2.1,([],u4.1.1.2.2.2.2.2.2.2.2.2.2.2.2)))))))))))),u4.1.2),())
        ) (
        bIf ((hide (t8==(6:Int)))) (
          bnd (ybI.f n t) λu5=>
          bnd (ycG.f n u5.1) λu6=>
          bnd (ycz.f n u6.1) λu7=>
          bnd (ycy.f n u7.1 true) λu8=>
          some (u8.1,())
          ) (
          bIf ((hide (t8==(7:Int)))) (
            J3 n (t8,true,A,t,())
            ) (
            J3 n (t8,(hide (t8==(8:Int))),A,t,())
            )
          )
        )
      )
    ):=(yah _).trans (by kernel_rfl)
theorem e3 (n : Nat) (t8 : Int) (t54:Bool) (A:yap) (t:ybh):J3 n (t8,t54,A,t,()) =
  bIf (t54) (
    bnd (ybI.f n t) λu1=>
    bnd (yb2.f n u1.1 0) λu2=>
    some (u2.1,())
    ) (
    bIf ((hide (t8 == (9:Int)))) (
      bnd (ybI.f n t) λu3=>
      some (u3.1,())
      ) (
      bIf ((hide (t8 == (10 : Int)))) (
        bnd (ybI.f n t) λu4=>
        bnd (yb2.f n u4.1 1) λu5=>
        bnd (ycp.f n u5.1) λu6=>
        some (u6.1,())
        ) (
        bIf ((hide (t8 == (11 : Int)))) (
          bnd (ybI.f n t) λu7=>
          bnd (yb2.f n u7.1 0) λu8=>
          bnd (ycy.f n u8.1 (!A.2.2.2.2.2.2.2.1.2.2.1)) λu9=>
          bnd (ycp.f n u9.1) λu10=>
          some (u10.1,())
          ) (
          bIf ((hide (t8 == (12 : Int)))) (
            bnd (ybI.f n t) λu11=>
            bnd (yb2.f n u11.1 0) λu12=>
            bnd (ycy.f n u12.1 (hide (A.2.2.2.2.2.2.2.1.1==(0:Int)))) λu13=>
            some (u13.1,())
            ) (
            bIf ((hide (t8 == (13:Int)))) (
              bnd (ybI.f n t) λu14=>
              bnd (yb2.f n u14.1 0) λu15=>
              bnd (ycz.f n u15.1) λu16=>
              some (u16.1,())
              ) (
              bIf ((hide (t8 == (14:Int)))) (
                bnd (ycw.f n t) λu17=>
                bnd (yc6.f n A.2.2.2.2.2.2.2.2.2.2.2.2.2.2.2.2.1) λu18=>
                bIf (u18.1) (
                  bnd (yc6.f n A.2.2.2.2.2.2.2.2.2.2.2.2.2.2.1) λu19=>
                  bnd (yaB.f n u17.1 u19.1) λu20=>
                  J4 n (u20.1,())
                  ) (
                  bnd (yaB.f n u17.1 false) λu21=>
                  J4 n (u21.1,())
                  )
                ) (
                bIf ((hide (t8==(15:Int)))) (
                  bnd (ycw.f n t) λu22=>
                  bIf ((hide (eqS A.2.2.2.2.2.2.2.2.2.2.2.2.2.2.2.2.2.1.1 (⟨#[]⟩:ByteArray)))) (
                    bnd (yc6.f n A.2.2.2.2.2.2.2.2.2.2.2.2.2.2.2.2.2.1.2.1) λu23=>
                    bnd (yb9.f n u22.1 u23.1) λu24=>
                    some (u24.1,())
                    ) (
                    bnd (yb9.f n u22.1 false) λu25=>
                    some (u25.1,())
                    )
                  ) (
                  bIf ((hide (t8==(16:Int)))) (
                    bnd (ybI.f n t) λu26=>
                    bnd (ycz.f n u26.1) λu27=>
                    some (u27.1,())
                    ) (
                    bIf ((hide (t8==(17:Int)))) (
                      bnd (yb2.f n t 1) λu28=>
                      bnd (ycG.f n u28.1) λu29=>
                      bIf ((hide (decide (A.2.2.2.2.2.2.2.2.2.2.2.2.1≥(1:Int))))) (
                        bnd (yaB.f n u29.1 (hide (decide (A.2.2.2.2.2.2.2.2.2.2.2.2.1≤(10000:Int))))) λu30=>
                        some (((u30.1.1.1,(u30.1.1.2.1,(u30.1.1.2.2.1,(u30.1.1.2.2.2.1,(u30.1.1.2.2.2.2.1,(u30.1.1.2.2.2.2.2.1,(u30.1.1.2.2.2.2.2.2.1,(u30.1.1.2.2.2.2.2.2.2.1,(u30.1.1.2.2.2.2.2.2.2.2.1,(u30.1.1.2.2.2.2.2.2.2.2.2.1,(u30.1.1.2.2.2.2.2.2.2.2.2.2.1,(u30.1.1.2.2.2.2.2.2.2.2.2.2.2.1,(0,u30.1.1.2.2.2.2.2.2.2.2.2.2.2.2.2))))))))))))),u30.1.2),())
                        ) (
                        bnd (yaB.f n u29.1 false) λu31=>
                        some (((u31.1.1.1,(u31.1.1.2.1,(u31.1.1.2.2.1,(u31.1.1.2.2.2.1,(u31.1.1.2.2.2.2.1,(u31.1.1.2.2.2.2.2.1,(u31.1.1.2.2.2.2.2.2.1,(u31.1.1.2.2.2.2.2.2.2.1,(u31.1.1.2.2.2.2.2.2.2.2.1,(u31.1.1.2.2.2.2.2.2.2.2.2.1,(u31.1.1.2.2.2.2.2.2.2.2.2.2.1,(u31.1.1.2.2.2.2.2.2.2.2.2.2.2.1,(0,u31.1.1.2.2.2.2.2.2.2.2.2.2.2.2.2))))))))))))),u31.1.2),())
                        )
                      ) (
                      bIf ((hide (t8==(18:Int)))) (
                        bnd (yb2.f n t 1) λu32=>
                        bnd (yaB.f n u32.1 (hide (decide (((A.2.2.2.2.2.2.2.2.2.2.2.2.2.1.length:Nat):Int)≤(16:Int))))) λu33=>
                        some (((u33.1.1.1,(u33.1.1.2.1,(u33.1.1.2.2.1,(u33.1.1.2.2.2.1,(u33.1.1.2.2.2.2.1,(u33.1.1.2.2.2.2.2.1,(u33.1.1.2.2.2.2.2.2.1,(u33.1.1.2.2.2.2.2.2.2.1,(u33.1.1.2.2.2.2.2.2.2.2.1,(u33.1.1.2.2.2.2.2.2.2.2.2.1,(u33.1.1.2.2.2.2.2.2.2.2.2.2.1,(u33.1.1.2.2.2.2.2.2.2.2.2.2.2.1,(u33.1.1.2.2.2.2.2.2.2.2.2.2.2.2.1,([],u33.1.1.2.2.2.2.2.2.2.2.2.2.2.2.2.2)))))))))))))),u33.1.2),())
                        ) (
                        bIf ((hide (t8==(19:Int)))) (
                          bnd (yb2.f n t 1) λu34=>
                          some (u34.1,())
                          ) (
                          bIf ((hide (t8==(20:Int)))) (
                            bnd (ybI.f n t) λu35=>
                            bnd (ybM.f n A.2.2.2.2.2.2.2.2.2.2.2.2.2.2.2.2.2.1.1) λu36=>
                            bIf (u36.1) (
                              bnd (ydq.f n A.2.2.2.2.2.2.2.2.2.2.2.2.2.2.2.2.2.1.2.1) λu37=>
                              bIf (u37.1) (
                                bnd (yb9.f n u35.1 (hide (decide (A.2.2.2.2.2.2.2.2.2.2.2.2.2.2.2.2.2.1.2.2.1≥(1:Int))))) λu38=>
                                some (u38.1,())
                                ) (
                                bnd (yb9.f n u35.1 false) λu39=>
                                some (u39.1,())
                                )
                              ) (
                              bnd (yb9.f n u35.1 false) λu40=>
                              some (u40.1,())
                              )
                            ) (
                            bnd (yaB.f n t false) λu41=>
                            some (u41.1,())
                            )
                          )
                        )
                      )
                    )
                  )
                )
              )
            )
          )
        )
      )
    ):=(yah _).trans (by kernel_rfl)
theorem e4 (n:Nat)(t:ybh):J4 n (t,()) =
  some (((t.1.1,(t.1.2.1,(t.1.2.2.1,(t.1.2.2.2.1,(t.1.2.2.2.2.1,(t.1.2.2.2.2.2.1,(t.1.2.2.2.2.2.2.1,(t.1.2.2.2.2.2.2.2.1,(t.1.2.2.2.2.2.2.2.2.1,(t.1.2.2.2.2.2.2.2.2.2.1,(t.1.2.2.2.2.2.2.2.2.2.2.1,(t.1.2.2.2.2.2.2.2.2.2.2.2.1,(t.1.2.2.2.2.2.2.2.2.2.2.2.2.1,(t.1.2.2.2.2.2.2.2.2.2.2.2.2.2.1,((⟨#[]⟩:ByteArray),(t.1.2.2.2.2.2.2.2.2.2.2.2.2.2.2.2.1,((⟨#[]⟩:ByteArray),t.1.2.2.2.2.2.2.2.2.2.2.2.2.2.2.2.2.2))))))))))))))))),t.2),()):=(yah _).trans (by kernel_rfl)
theorem phi (n:Nat):∀ e∈(X n).c.Φ,EntryOk Tryz.prog e:=yae (yac (ybM.ok n)) (yae (yac (yaB.ok n)) (yae (yac (ydZ.ok n)) (yae (yac (ydJ.ok n)) (yae (yac (ydy.ok n)) (yae (yac (ybI.ok n)) (yae (yac (ycG.ok n)) (yae (yac (ycz.ok n)) (yae (yac (ycy.ok n)) (yae (yac (yb2.ok n)) (yae (yac (ycp.ok n)) (yae (yac (ycw.ok n)) (yae (yac (yc6.ok n)) (yae (yac (yb9.ok n)) (yae (yac (ydq.ok n)) (yax)))))))))))))))
theorem ok (n:Nat):FnOk Tryz.prog 132 ia io (fRun (X n) n T Tryz.f132 ia io):=yaH mixed tabIs (phi n) Tryz.func132 (by kernel_rfl) rfl
noncomputable def en (n:Nat):Entry:=yaD 132 ia io (fRun (X n) n T Tryz.f132 ia io)
end yab
end Go.Proofs.YtdlkpmohjhjmfaaGreatDoor

namespace Go.Proofs.YtdlkpmohjhjmfaaGreatDoor
open Go Go.Va Go.Proofs
namespace yay
abbrev ia:List Ai:=[.dat yav]
abbrev io:List (Nat×Oi):=[(2,.dat .bool)]
abbrev R:Type:=DOut ia io
noncomputable def X (n:Nat):Ctx:=⟨⟨tab,[ybc.en n,ya2.en n,ybM.en n,yab.en n,yeh.en n],0,[]⟩,50,bnOf 0 ia⟩
abbrev g1:List Si:=[.ref 1 1 yav,.box 1 (.d yav)]
noncomputable def T:CT:=(.s .o (.s .o (.r g1 .o)))
noncomputable def J1 (n:Nat):yap×Unit→Option R:=jR (X n) n T (yaR Tryz.f75) (endK ia io) g1 [1,1] []
noncomputable def f (n:Nat)(r:yap):Option R:=fRun (X n) n T Tryz.f75 ia io (r,())
theorem e0 (n:Nat) (r:yap):f n r =
  bIf ((hide (decide ((r.2.1.size:Int)>(64:Int))))) (
    some (false,())
    ) (
    bnd (ybc.f n r.2.1) λu1=>
    bIf ((!u1.1)) (
      some (false,())
      ) (
      bnd (ya2.f n r.1) λu2=>
      bIf ((hide (!(u2.1==(hide (eqS r.2.2.1 (⟨#[]⟩:ByteArray))))))) (
        some (false,())
        ) (
        bIf ((hide (!eqS r.2.2.1 (⟨#[]⟩:ByteArray)))) (
          bnd (ybM.f n r.2.2.1) λu3=>
          bIf ((!u3.1)) (
            some (false,())
            ) (
            J1 n (r,())
            )
          ) (
          J1 n (r,())
          )
        )
      )
    ):=(yah _).trans (by kernel_rfl)
theorem e1 (n:Nat)(r:yap):J1 n (r,()) =
  bnd (yab.f n (r,(true,()))) λu1=>
  bIf (u1.1.2.1) (
    bnd (yeh.f n u1.1.1) λu2=>
    some (u2.1,())
    ) (
    some (false,())
    ):=(yah _).trans (by kernel_rfl)
theorem phi (n:Nat):∀ e∈(X n).c.Φ,EntryOk Tryz.prog e:=yae (yac (ybc.ok n)) (yae (yac (ya2.ok n)) (yae (yac (ybM.ok n)) (yae (yac (yab.ok n)) (yae (yac (yeh.ok n)) (yax)))))
theorem ok (n:Nat):FnOk Tryz.prog 75 ia io (fRun (X n) n T Tryz.f75 ia io):=yaH mixed tabIs (phi n) Tryz.func75 (by kernel_rfl) rfl
noncomputable def en (n:Nat):Entry:=yaD 75 ia io (fRun (X n) n T Tryz.f75 ia io)
end yay
end Go.Proofs.YtdlkpmohjhjmfaaGreatDoor

namespace Go.Proofs.YtdlkpmohjhjmfaaGreatDoor
open Go Go.Va Go.Proofs
namespace ydQ
abbrev ia:List Ai:=[]
abbrev io:List (Nat×Oi):=[(0,.new 0 (.p (.r 0 (.int .u8)) (.d .unit)))]
abbrev R:Type:=DOut ia io
noncomputable def X (n:Nat):Ctx:=⟨⟨tab,[],0,[]⟩,3,bnOf 0 ia⟩
noncomputable def T:CT := .o
noncomputable def f (n:Nat):Option R:=fRun (X n) n T Tryz.f116 ia io (())
theorem e0 (n:Nat):f n =
  some (([],()),()):=(yah _).trans (by kernel_rfl)
theorem phi (n:Nat):∀ e∈(X n).c.Φ,EntryOk Tryz.prog e:=yax
theorem ok (n:Nat):FnOk Tryz.prog 116 ia io (fRun (X n) n T Tryz.f116 ia io):=yaH mixed tabIs (phi n) Tryz.func116 (by kernel_rfl) rfl
noncomputable def en (n:Nat):Entry:=yaD 116 ia io (fRun (X n) n T Tryz.f116 ia io)
end ydQ
end Go.Proofs.YtdlkpmohjhjmfaaGreatDoor

namespace Go.Proofs.YtdlkpmohjhjmfaaGreatDoor
open Go Go.Va Go.Proofs
namespace ybF
abbrev ia:List Ai:=[]
abbrev io:List (Nat×Oi):=[(0,.newc 1 (.p (.r 0 (.int .u8)) (.d .unit)))]
abbrev R:Type:=DOut ia io
noncomputable def X (n:Nat):Ctx:=⟨⟨tab,[ydQ.en n],0,[]⟩,3,bnOf 0 ia⟩
noncomputable def T:CT := .o
noncomputable def f (n:Nat):Option R:=fRun (X n) n T Tryz.f57 ia io (())
theorem e0 (n:Nat):f n =
  bnd (ydQ.f n) λu1=>
  some ((u1.1.1,u1.1.2),()):=(yah _).trans (by kernel_rfl)
theorem phi (n:Nat):∀ e∈(X n).c.Φ,EntryOk Tryz.prog e:=yae (yac (ydQ.ok n)) (yax)
theorem ok (n:Nat):FnOk Tryz.prog 57 ia io (fRun (X n) n T Tryz.f57 ia io):=yaH mixed tabIs (phi n) Tryz.func57 (by kernel_rfl) rfl
noncomputable def en (n:Nat):Entry:=yaD 57 ia io (fRun (X n) n T Tryz.f57 ia io)
end ybF
end Go.Proofs.YtdlkpmohjhjmfaaGreatDoor

namespace Go.Proofs.YtdlkpmohjhjmfaaGreatDoor
open Go Go.Va Go.Proofs
namespace ydt
abbrev ia:List Ai:=[.dat yb4]
abbrev io:List (Nat×Oi):=[(2,.dat .bool)]
abbrev R:Type:=DOut ia io
noncomputable def X (n:Nat):Ctx:=⟨⟨tab,[ya9.en n],0,[]⟩,6,bnOf 0 ia⟩
noncomputable def T:CT := .o
noncomputable def f (n:Nat)(v_:ybs):Option R:=fRun (X n) n T Tryz.f107 ia io (v_,())
theorem e0 (n:Nat)(v_:ybs):f n v_ =
  bnd (ya9.f n v_ (0,(false,(0,(0,((List.replicate 32 0),(0,((0,(0,(false,()))),([],()))))))))) λu1=>
  some (u1.1,()):=(yah _).trans (by kernel_rfl)
theorem phi (n:Nat):∀ e∈(X n).c.Φ,EntryOk Tryz.prog e:=yae (yac (ya9.ok n)) (yax)
theorem ok (n:Nat):FnOk Tryz.prog 107 ia io (fRun (X n) n T Tryz.f107 ia io):=yaH mixed tabIs (phi n) Tryz.func107 (by kernel_rfl) rfl
noncomputable def en (n:Nat):Entry:=yaD 107 ia io (fRun (X n) n T Tryz.f107 ia io)
end ydt
end Go.Proofs.YtdlkpmohjhjmfaaGreatDoor

namespace Go.Proofs.YtdlkpmohjhjmfaaGreatDoor
open Go Go.Va Go.Proofs
namespace ydB
abbrev ia:List Ai:=[.dat yb7]
abbrev io:List (Nat×Oi):=[(2,.dat .bool)]
abbrev R:Type:=DOut ia io
noncomputable def X (n:Nat):Ctx:=⟨⟨tab,[ydt.en n,ycs.en n],0,[]⟩,20,bnOf 0 ia⟩
noncomputable def T:CT := .o
noncomputable def f (n:Nat)(r:yci):Option R:=fRun (X n) n T Tryz.f111 ia io (r,())
theorem e0 (n:Nat) (r:yci):f n r =
  bIf ((hide (decide ((r.1.size:Int)>(200:Int))))) (
    some (false,())
    ) (
    bIf (r.2.1) (
      bIf ((!r.2.2.2.1)) (
        bnd (ydt.f n r.2.2.1) λu1=>
        some (u1.1,())
        ) (
        some (false,())
        )
      ) (
      bnd (ycs.f n r.2.2.1) λu2=>
      some (u2.1,())
      )
    ):=(yah _).trans (by kernel_rfl)
theorem phi (n:Nat):∀ e∈(X n).c.Φ,EntryOk Tryz.prog e:=yae (yac (ydt.ok n)) (yae (yac (ycs.ok n)) (yax))
theorem ok (n:Nat):FnOk Tryz.prog 111 ia io (fRun (X n) n T Tryz.f111 ia io):=yaH mixed tabIs (phi n) Tryz.func111 (by kernel_rfl) rfl
noncomputable def en (n:Nat):Entry:=yaD 111 ia io (fRun (X n) n T Tryz.f111 ia io)
end ydB
end Go.Proofs.YtdlkpmohjhjmfaaGreatDoor

namespace Go.Proofs.YtdlkpmohjhjmfaaGreatDoor
open Go Go.Va Go.Proofs
namespace yd2
abbrev ia:List Ai:=[.dat yb7]
abbrev io:List (Nat×Oi):=[(2,.dat .bool)]
abbrev R:Type:=DOut ia io
noncomputable def X (n:Nat):Ctx:=⟨⟨tab,[ydB.en n],0,[]⟩,6,bnOf 0 ia⟩
noncomputable def T:CT := .o
noncomputable def f (n:Nat)(x_:yci):Option R:=fRun (X n) n T Tryz.f110 ia io (x_,())
theorem e0 (n:Nat)(x_:yci):f n x_ =
  bnd (ydB.f n x_) λu1=>
  some ((!u1.1),()):=(yah _).trans (by kernel_rfl)
theorem phi (n:Nat):∀ e∈(X n).c.Φ,EntryOk Tryz.prog e:=yae (yac (ydB.ok n)) (yax)
theorem ok (n:Nat):FnOk Tryz.prog 110 ia io (fRun (X n) n T Tryz.f110 ia io):=yaH mixed tabIs (phi n) Tryz.func110 (by kernel_rfl) rfl
noncomputable def en (n:Nat):Entry:=yaD 110 ia io (fRun (X n) n T Tryz.f110 ia io)
end yd2
end Go.Proofs.YtdlkpmohjhjmfaaGreatDoor

namespace Go.Proofs.YtdlkpmohjhjmfaaGreatDoor
open Go Go.Va Go.Proofs
namespace ybD
abbrev ia:List Ai:=[.dat (.slice yb7),.fn (.fn 110) []]
abbrev io:List (Nat×Oi):=[(4,.dat (.int .i64))]
abbrev R:Type:=DOut ia io
noncomputable def X (n:Nat):Ctx:=⟨⟨tab,[yd2.en n],0,[]⟩,19,bnOf 0 ia⟩
abbrev g1:List Si:=[.dat 0 (.slice yb7),.clo 1 (.fn 110) [],.dat 7 (.int .i64),.dat 8 (.int .i64)]
abbrev g2:List Si:=[]
noncomputable def T:CT:=(.s .o (.s (.s .o (.b (.l g1 .o))) (.r g2 .o)))
noncomputable def J1 (n:Nat)(m:Nat):(List (yci))×Int×Int×Unit→Option R:=jL (X n) n T (yaR Tryz.f173) (endK ia io) g1 [1,0,1,0] [] m
noncomputable def J2 (n:Nat):Unit→Option R:=jR (X n) n T (yaR Tryz.f173) (endK ia io) g2 [1,1] []
noncomputable def f (n:Nat)(s_:List (yci)):Option R:=fRun (X n) n T Tryz.f173 ia io (s_,())
theorem e0 (n:Nat)(s_:List (yci)):f n s_ =
  J1 n n (s_,((s_.length:Nat):Int),0,()):=(yah _).trans (by kernel_rfl)
theorem e1 (n m:Nat) (s_:List (yci)) (t7:Int) (t8:Int):J1 n (m+1) (s_,t7,t8,()) =
  bIf ((hide (decide (t8<t7)))) (
    gIf (0≤t8∧t8<((s_.length:Nat):Int)) (
      bnd (yd2.f n (List.getD s_ t8.toNat (Va.dflt yb7))) λu1=>
      bIf (u1.1) (
        some (t8,())
        ) (
        J1 n m (s_,t7,(IntKind.i64.wrap (t8+(1:Int))),())
        )
      )
    ) (
    J2 n (())
    ):=(yah _).trans (by kernel_rfl)
theorem e2 (n:Nat):J2 n (()) =
  some ((-1),()):=(yah _).trans (by kernel_rfl)
theorem phi (n:Nat):∀ e∈(X n).c.Φ,EntryOk Tryz.prog e:=yae (yac (yd2.ok n)) (yax)
theorem ok (n:Nat):FnOk Tryz.prog 173 ia io (fRun (X n) n T Tryz.f173 ia io):=yaH mixed tabIs (phi n) Tryz.func173 (by kernel_rfl) rfl
noncomputable def en (n:Nat):Entry:=yaD 173 ia io (fRun (X n) n T Tryz.f173 ia io)
end ybD
end Go.Proofs.YtdlkpmohjhjmfaaGreatDoor

namespace Go.Proofs.YtdlkpmohjhjmfaaGreatDoor
open Go Go.Va Go.Proofs
namespace ybS
abbrev ia:List Ai:=[.dat (.slice yb7),.fn (.fn 110) []]
abbrev io:List (Nat×Oi):=[(4,.dat .bool)]
abbrev R:Type:=DOut ia io
noncomputable def X (n:Nat):Ctx:=⟨⟨tab,[ybD.en n],0,[]⟩,9,bnOf 0 ia⟩
noncomputable def T:CT := .o
noncomputable def f (n:Nat)(s_:List (yci)):Option R:=fRun (X n) n T Tryz.f109 ia io (s_,())
theorem e0 (n:Nat)(s_:List (yci)):f n s_ =
  bnd (ybD.f n s_) λu1=>
  some ((hide (decide (u1.1≥(0:Int)))),()):=(yah _).trans (by kernel_rfl)
theorem phi (n:Nat):∀ e∈(X n).c.Φ,EntryOk Tryz.prog e:=yae (yac (ybD.ok n)) (yax)
theorem ok (n:Nat):FnOk Tryz.prog 109 ia io (fRun (X n) n T Tryz.f109 ia io):=yaH mixed tabIs (phi n) Tryz.func109 (by kernel_rfl) rfl
noncomputable def en (n:Nat):Entry:=yaD 109 ia io (fRun (X n) n T Tryz.f109 ia io)
end ybS
end Go.Proofs.YtdlkpmohjhjmfaaGreatDoor

namespace Go.Proofs.YtdlkpmohjhjmfaaGreatDoor
open Go Go.Va Go.Proofs
namespace yd3
abbrev ia:List Ai:=[.dat (.int .i64)]
abbrev io:List (Nat×Oi):=[(2,.dat .bool)]
abbrev R:Type:=DOut ia io
noncomputable def X (n:Nat):Ctx:=⟨⟨tab,[],0,[]⟩,5,bnOf 0 ia⟩
noncomputable def T:CT := .o
noncomputable def f (n:Nat)(n_:Int):Option R:=fRun (X n) n T Tryz.f113 ia io (n_,())
theorem e0 (n:Nat)(n_:Int):f n n_ =
  some ((hide (decide (n_<(0:Int)))),()):=(yah _).trans (by kernel_rfl)
theorem phi (n:Nat):∀ e∈(X n).c.Φ,EntryOk Tryz.prog e:=yax
theorem ok (n:Nat):FnOk Tryz.prog 113 ia io (fRun (X n) n T Tryz.f113 ia io):=yaH mixed tabIs (phi n) Tryz.func113 (by kernel_rfl) rfl
noncomputable def en (n:Nat):Entry:=yaD 113 ia io (fRun (X n) n T Tryz.f113 ia io)
end yd3
end Go.Proofs.YtdlkpmohjhjmfaaGreatDoor

namespace Go.Proofs.YtdlkpmohjhjmfaaGreatDoor
open Go Go.Va Go.Proofs
namespace ybC
abbrev ia:List Ai:=[.dat (.slice (.int .i64)),.fn (.fn 113) []]
abbrev io:List (Nat×Oi):=[(4,.dat (.int .i64))]
abbrev R:Type:=DOut ia io
noncomputable def X (n:Nat):Ctx:=⟨⟨tab,[yd3.en n],0,[]⟩,19,bnOf 0 ia⟩
abbrev g1:List Si:=[.dat 0 (.slice (.int .i64)),.clo 1 (.fn 113) [],.dat 7 (.int .i64),.dat 8 (.int .i64)]
abbrev g2:List Si:=[]
noncomputable def T:CT:=(.s .o (.s (.s .o (.b (.l g1 .o))) (.r g2 .o)))
noncomputable def J1 (n:Nat)(m:Nat):(List (Int))×Int×Int×Unit→Option R:=jL (X n) n T (yaR Tryz.f174) (endK ia io) g1 [1,0,1,0] [] m
noncomputable def J2 (n:Nat):Unit→Option R:=jR (X n) n T (yaR Tryz.f174) (endK ia io) g2 [1,1] []
noncomputable def f (n:Nat)(s_:List (Int)):Option R:=fRun (X n) n T Tryz.f174 ia io (s_,())
theorem e0 (n:Nat)(s_:List (Int)):f n s_ =
  J1 n n (s_,((s_.length:Nat):Int),0,()):=(yah _).trans (by kernel_rfl)
theorem e1 (n m:Nat) (s_:List (Int)) (t7:Int) (t8:Int):J1 n (m+1) (s_,t7,t8,()) =
  bIf ((hide (decide (t8<t7)))) (
    gIf (0≤t8∧t8<((s_.length:Nat):Int)) (
      bnd (yd3.f n (List.getD s_ t8.toNat 0)) λu1=>
      bIf (u1.1) (
        some (t8,())
        ) (
        J1 n m (s_,t7,(IntKind.i64.wrap (t8+(1:Int))),())
        )
      )
    ) (
    J2 n (())
    ):=(yah _).trans (by kernel_rfl)
theorem e2 (n:Nat):J2 n (()) =
  some ((-1),()):=(yah _).trans (by kernel_rfl)
theorem phi (n:Nat):∀ e∈(X n).c.Φ,EntryOk Tryz.prog e:=yae (yac (yd3.ok n)) (yax)
theorem ok (n:Nat):FnOk Tryz.prog 174 ia io (fRun (X n) n T Tryz.f174 ia io):=yaH mixed tabIs (phi n) Tryz.func174 (by kernel_rfl) rfl
noncomputable def en (n:Nat):Entry:=yaD 174 ia io (fRun (X n) n T Tryz.f174 ia io)
end ybC
end Go.Proofs.YtdlkpmohjhjmfaaGreatDoor

namespace Go.Proofs.YtdlkpmohjhjmfaaGreatDoor
open Go Go.Va Go.Proofs
namespace ybR
abbrev ia:List Ai:=[.dat (.slice (.int .i64)),.fn (.fn 113) []]
abbrev io:List (Nat×Oi):=[(4,.dat .bool)]
abbrev R:Type:=DOut ia io
noncomputable def X (n:Nat):Ctx:=⟨⟨tab,[ybC.en n],0,[]⟩,9,bnOf 0 ia⟩
noncomputable def T:CT := .o
noncomputable def f (n:Nat)(s_:List (Int)):Option R:=fRun (X n) n T Tryz.f112 ia io (s_,())
theorem e0 (n:Nat)(s_:List (Int)):f n s_ =
  bnd (ybC.f n s_) λu1=>
  some ((hide (decide (u1.1≥(0:Int)))),()):=(yah _).trans (by kernel_rfl)
theorem phi (n:Nat):∀ e∈(X n).c.Φ,EntryOk Tryz.prog e:=yae (yac (ybC.ok n)) (yax)
theorem ok (n:Nat):FnOk Tryz.prog 112 ia io (fRun (X n) n T Tryz.f112 ia io):=yaH mixed tabIs (phi n) Tryz.func112 (by kernel_rfl) rfl
noncomputable def en (n:Nat):Entry:=yaD 112 ia io (fRun (X n) n T Tryz.f112 ia io)
end ybR
end Go.Proofs.YtdlkpmohjhjmfaaGreatDoor

namespace Go.Proofs.YtdlkpmohjhjmfaaGreatDoor
open Go Go.Va Go.Proofs
namespace yd4
abbrev ia:List Ai:=[.dat .str]
abbrev io:List (Nat×Oi):=[(2,.dat .bool)]
abbrev R:Type:=DOut ia io
noncomputable def X (n:Nat):Ctx:=⟨⟨tab,[],0,[]⟩,6,bnOf 0 ia⟩
noncomputable def T:CT := .o
noncomputable def f (n:Nat)(s_:ByteArray):Option R:=fRun (X n) n T Tryz.f115 ia io (s_,())
theorem e0 (n:Nat)(s_:ByteArray):f n s_ =
  some ((hide (decide ((s_.size:Int)>(63:Int)))),()):=(yah _).trans (by kernel_rfl)
theorem phi (n:Nat):∀ e∈(X n).c.Φ,EntryOk Tryz.prog e:=yax
theorem ok (n:Nat):FnOk Tryz.prog 115 ia io (fRun (X n) n T Tryz.f115 ia io):=yaH mixed tabIs (phi n) Tryz.func115 (by kernel_rfl) rfl
noncomputable def en (n:Nat):Entry:=yaD 115 ia io (fRun (X n) n T Tryz.f115 ia io)
end yd4
end Go.Proofs.YtdlkpmohjhjmfaaGreatDoor

namespace Go.Proofs.YtdlkpmohjhjmfaaGreatDoor
open Go Go.Va Go.Proofs
namespace ybl
abbrev ia:List Ai:=[.dat (.slice .str),.fn (.fn 115) []]
abbrev io:List (Nat×Oi):=[(4,.dat (.int .i64))]
abbrev R:Type:=DOut ia io
noncomputable def X (n:Nat):Ctx:=⟨⟨tab,[yd4.en n],0,[]⟩,19,bnOf 0 ia⟩
abbrev g1:List Si:=[.dat 0 (.slice .str),.clo 1 (.fn 115) [],.dat 7 (.int .i64),.dat 8 (.int .i64)]
abbrev g2:List Si:=[]
noncomputable def T:CT:=(.s .o (.s (.s .o (.b (.l g1 .o))) (.r g2 .o)))
noncomputable def J1 (n:Nat)(m:Nat):(List (ByteArray))×Int×Int×Unit→Option R:=jL (X n) n T (yaR Tryz.f175) (endK ia io) g1 [1,0,1,0] [] m
noncomputable def J2 (n:Nat):Unit→Option R:=jR (X n) n T (yaR Tryz.f175) (endK ia io) g2 [1,1] []
noncomputable def f (n:Nat)(s_:List (ByteArray)):Option R:=fRun (X n) n T Tryz.f175 ia io (s_,())
theorem e0 (n:Nat)(s_:List (ByteArray)):f n s_ =
  J1 n n (s_,((s_.length:Nat):Int),0,()):=(yah _).trans (by kernel_rfl)
theorem e1 (n m:Nat) (s_:List (ByteArray)) (t7:Int) (t8:Int):J1 n (m+1) (s_,t7,t8,()) =
  bIf ((hide (decide (t8<t7)))) (
    gIf (0≤t8∧t8<((s_.length:Nat):Int)) (
      bnd (yd4.f n (List.getD s_ t8.toNat (⟨#[]⟩:ByteArray))) λu1=>
      bIf (u1.1) (
        some (t8,())
        ) (
        J1 n m (s_,t7,(IntKind.i64.wrap (t8+(1:Int))),())
        )
      )
    ) (
    J2 n (())
    ):=(yah _).trans (by kernel_rfl)
theorem e2 (n:Nat):J2 n (()) =
  some ((-1),()):=(yah _).trans (by kernel_rfl)
theorem phi (n:Nat):∀ e∈(X n).c.Φ,EntryOk Tryz.prog e:=yae (yac (yd4.ok n)) (yax)
theorem ok (n:Nat):FnOk Tryz.prog 175 ia io (fRun (X n) n T Tryz.f175 ia io):=yaH mixed tabIs (phi n) Tryz.func175 (by kernel_rfl) rfl
noncomputable def en (n:Nat):Entry:=yaD 175 ia io (fRun (X n) n T Tryz.f175 ia io)
end ybl
end Go.Proofs.YtdlkpmohjhjmfaaGreatDoor

namespace Go.Proofs.YtdlkpmohjhjmfaaGreatDoor
open Go Go.Va Go.Proofs
namespace ybE
abbrev ia:List Ai:=[.dat (.slice .str),.fn (.fn 115) []]
abbrev io:List (Nat×Oi):=[(4,.dat .bool)]
abbrev R:Type:=DOut ia io
noncomputable def X (n:Nat):Ctx:=⟨⟨tab,[ybl.en n],0,[]⟩,9,bnOf 0 ia⟩
noncomputable def T:CT := .o
noncomputable def f (n:Nat)(s_:List (ByteArray)):Option R:=fRun (X n) n T Tryz.f114 ia io (s_,())
theorem e0 (n:Nat)(s_:List (ByteArray)):f n s_ =
  bnd (ybl.f n s_) λu1=>
  some ((hide (decide (u1.1≥(0:Int)))),()):=(yah _).trans (by kernel_rfl)
theorem phi (n:Nat):∀ e∈(X n).c.Φ,EntryOk Tryz.prog e:=yae (yac (ybl.ok n)) (yax)
theorem ok (n:Nat):FnOk Tryz.prog 114 ia io (fRun (X n) n T Tryz.f114 ia io):=yaH mixed tabIs (phi n) Tryz.func114 (by kernel_rfl) rfl
noncomputable def en (n:Nat):Entry:=yaD 114 ia io (fRun (X n) n T Tryz.f114 ia io)
end ybE
end Go.Proofs.YtdlkpmohjhjmfaaGreatDoor

namespace Go.Proofs.YtdlkpmohjhjmfaaGreatDoor
open Go Go.Va Go.Proofs
namespace ydA
abbrev ia:List Ai:=[.dat yb7,.dat yb7]
abbrev io:List (Nat×Oi):=[(4,.dat .bool)]
abbrev R:Type:=DOut ia io
noncomputable def X (n:Nat):Ctx:=⟨⟨tab,[ya9.en n],0,[]⟩,31,bnOf 0 ia⟩
noncomputable def T:CT := .o
noncomputable def f (n:Nat)(a:yci)(b:yci):Option R:=fRun (X n) n T Tryz.f168 ia io (a,b,())
theorem e0 (n:Nat) (a:yci) (b:yci):f n a b =
  bIf ((hide (eqS a.1 b.1))) (
    bIf ((hide (a.2.1==b.2.1))) (
      bIf ((hide (a.2.2.2.1==b.2.2.2.1))) (
        bnd (ya9.f n a.2.2.1 b.2.2.1) λu1=>
        some (u1.1,())
        ) (
        some (false,())
        )
      ) (
      some (false,())
      )
    ) (
    some (false,())
    ):=(yah _).trans (by kernel_rfl)
theorem phi (n:Nat):∀ e∈(X n).c.Φ,EntryOk Tryz.prog e:=yae (yac (ya9.ok n)) (yax)
theorem ok (n:Nat):FnOk Tryz.prog 168 ia io (fRun (X n) n T Tryz.f168 ia io):=yaH mixed tabIs (phi n) Tryz.func168 (by kernel_rfl) rfl
noncomputable def en (n:Nat):Entry:=yaD 168 ia io (fRun (X n) n T Tryz.f168 ia io)
end ydA
end Go.Proofs.YtdlkpmohjhjmfaaGreatDoor

namespace Go.Proofs.YtdlkpmohjhjmfaaGreatDoor
open Go Go.Va Go.Proofs
namespace ybk
abbrev ia:List Ai:=[.dat (.slice yb7),.dat (.slice yb7),.fn (.fn 168) []]
abbrev io:List (Nat×Oi):=[(6,.dat .bool)]
abbrev R:Type:=DOut ia io
noncomputable def X (n:Nat):Ctx:=⟨⟨tab,[ydA.en n],0,[]⟩,32,bnOf 0 ia⟩
abbrev g1:List Si:=[.dat 1 (.slice yb7),.clo 2 (.fn 168) [],.dat 15 (.slice yb7),.dat 16 (.int .i64),.dat 17 (.int .i64)]
abbrev g2:List Si:=[]
noncomputable def T:CT:=(.s .o (.s .o (.s (.s .o (.b (.l g1 .o))) (.r g2 .o))))
noncomputable def J1 (n:Nat)(m:Nat):(List (yci))×(List (yci))×Int×Int×Unit→Option R:=jL (X n) n T (yaR Tryz.f167) (endK ia io) g1 [1,1,0,1,0] [] m
noncomputable def J2 (n:Nat):Unit→Option R:=jR (X n) n T (yaR Tryz.f167) (endK ia io) g2 [1,1,1] []
noncomputable def f (n:Nat)(s1:List (yci))(s2:List (yci)):Option R:=fRun (X n) n T Tryz.f167 ia io (s1,s2,())
theorem e0 (n:Nat)(s1:List (yci))(s2:List (yci)):f n s1 s2 =
  bIf ((hide (((s1.length:Nat):Int) != ((s2.length:Nat):Int)))) (
    some (false,())
    ) (
    J1 n n (s2,s1,((s1.length:Nat):Int),0,())
    ):=(yah _).trans (by kernel_rfl)
theorem e1 (n m:Nat) (s2:List (yci)) (t15:List (yci)) (t16:Int) (t17:Int):J1 n (m+1) (s2,t15,t16,t17,()) =
  bIf ((hide (decide (t17<t16)))) (
    gIf (0≤t17∧t17<((t15.length:Nat):Int)) (
      gIf (0≤t17∧t17<((s2.length:Nat):Int)) (
        bnd (ydA.f n (List.getD t15 t17.toNat (Va.dflt yb7)) (List.getD s2 t17.toNat (Va.dflt yb7))) λu1=>
        bIf ((!u1.1)) (
          some (false,())
          ) (
          J1 n m (s2,t15,t16,(IntKind.i64.wrap (t17+(1:Int))),())
          )
        )
      )
    ) (
    J2 n (())
    ):=(yah _).trans (by kernel_rfl)
theorem e2 (n:Nat):J2 n (()) =
  some (true,()):=(yah _).trans (by kernel_rfl)
theorem phi (n:Nat):∀ e∈(X n).c.Φ,EntryOk Tryz.prog e:=yae (yac (ydA.ok n)) (yax)
theorem ok (n:Nat):FnOk Tryz.prog 167 ia io (fRun (X n) n T Tryz.f167 ia io):=yaH mixed tabIs (phi n) Tryz.func167 (by kernel_rfl) rfl
noncomputable def en (n:Nat):Entry:=yaD 167 ia io (fRun (X n) n T Tryz.f167 ia io)
end ybk
end Go.Proofs.YtdlkpmohjhjmfaaGreatDoor

namespace Go.Proofs.YtdlkpmohjhjmfaaGreatDoor
open Go Go.Va Go.Proofs
namespace ya4
abbrev ia:List Ai:=[.dat (.slice (.int .i64)),.dat (.slice (.int .i64))]
abbrev io:List (Nat×Oi):=[(4,.dat .bool)]
abbrev R:Type:=DOut ia io
noncomputable def X (n:Nat):Ctx:=⟨⟨tab,[],0,[]⟩,26,bnOf 0 ia⟩
abbrev g1:List Si:=[.dat 0 (.slice (.int .i64)),.dat 1 (.slice (.int .i64)),.dat 12 (.int .i64),.dat 13 (.int .i64)]
abbrev g2:List Si:=[]
noncomputable def T:CT:=(.s .o (.s .o (.s (.s .o (.b (.l g1 .o))) (.r g2 .o))))
noncomputable def J1 (n:Nat)(m:Nat):(List (Int))×(List (Int))×Int×Int×Unit→Option R:=jL (X n) n T (yaR Tryz.f142) (endK ia io) g1 [1,1,0,1,0] [] m
noncomputable def J2 (n:Nat):Unit→Option R:=jR (X n) n T (yaR Tryz.f142) (endK ia io) g2 [1,1,1] []
noncomputable def f (n:Nat)(s1:List (Int))(s2:List (Int)):Option R:=fRun (X n) n T Tryz.f142 ia io (s1,s2,())
theorem e0 (n:Nat)(s1:List (Int))(s2:List (Int)):f n s1 s2 =
  bIf ((hide (((s1.length:Nat):Int) != ((s2.length:Nat):Int)))) (
    some (false,())
    ) (
    J1 n n (s1,s2,((s1.length:Nat):Int),0,())
    ):=(yah _).trans (by kernel_rfl)
theorem e1 (n m:Nat) (s1:List (Int)) (s2:List (Int)) (t12:Int) (t13:Int):J1 n (m+1) (s1,s2,t12,t13,()) =
  bIf ((hide (decide (t13<t12)))) (
    gIf (0≤t13∧t13<((s1.length:Nat):Int)) (
      gIf (0≤t13∧t13<((s2.length:Nat):Int)) (
        bIf ((hide ((List.getD s1 t13.toNat 0) != (List.getD s2 t13.toNat 0)))) (
          some (false,())
          ) (
          J1 n m (s1,s2,t12,(IntKind.i64.wrap (t13+(1:Int))),())
          )
        )
      )
    ) (
    J2 n (())
    ):=(yah _).trans (by kernel_rfl)
theorem e2 (n:Nat):J2 n (()) =
  some (true,()):=(yah _).trans (by kernel_rfl)
theorem phi (n:Nat):∀ e∈(X n).c.Φ,EntryOk Tryz.prog e:=yax
theorem ok (n:Nat):FnOk Tryz.prog 142 ia io (fRun (X n) n T Tryz.f142 ia io):=yaH mixed tabIs (phi n) Tryz.func142 (by kernel_rfl) rfl
noncomputable def en (n:Nat):Entry:=yaD 142 ia io (fRun (X n) n T Tryz.f142 ia io)
end ya4
end Go.Proofs.YtdlkpmohjhjmfaaGreatDoor

namespace Go.Proofs.YtdlkpmohjhjmfaaGreatDoor
open Go Go.Va Go.Proofs
namespace ybo
abbrev ia:List Ai:=[.dat (.slice .str),.dat (.slice .str)]
abbrev io:List (Nat×Oi):=[(4,.dat .bool)]
abbrev R:Type:=DOut ia io
noncomputable def X (n:Nat):Ctx:=⟨⟨tab,[],0,[]⟩,26,bnOf 0 ia⟩
abbrev g1:List Si:=[.dat 0 (.slice .str),.dat 1 (.slice .str),.dat 12 (.int .i64),.dat 13 (.int .i64)]
abbrev g2:List Si:=[]
noncomputable def T:CT:=(.s .o (.s .o (.s (.s .o (.b (.l g1 .o))) (.r g2 .o))))
noncomputable def J1 (n:Nat)(m:Nat):(List (ByteArray))×(List (ByteArray))×Int×Int×Unit→Option R:=jL (X n) n T (yaR Tryz.f169) (endK ia io) g1 [1,1,0,1,0] [] m
noncomputable def J2 (n:Nat):Unit→Option R:=jR (X n) n T (yaR Tryz.f169) (endK ia io) g2 [1,1,1] []
noncomputable def f (n:Nat)(s1:List (ByteArray))(s2:List (ByteArray)):Option R:=fRun (X n) n T Tryz.f169 ia io (s1,s2,())
theorem e0 (n:Nat)(s1:List (ByteArray))(s2:List (ByteArray)):f n s1 s2 =
  bIf ((hide (((s1.length:Nat):Int) != ((s2.length:Nat):Int)))) (
    some (false,())
    ) (
    J1 n n (s1,s2,((s1.length:Nat):Int),0,())
    ):=(yah _).trans (by kernel_rfl)
theorem e1 (n m:Nat) (s1:List (ByteArray)) (s2:List (ByteArray)) (t12:Int) (t13:Int):J1 n (m+1) (s1,s2,t12,t13,()) =
  bIf ((hide (decide (t13<t12)))) (
    gIf (0≤t13∧t13<((s1.length:Nat):Int)) (
      gIf (0≤t13∧t13<((s2.length:Nat):Int)) (
        bIf ((hide (!eqS (List.getD s1 t13.toNat (⟨#[]⟩:ByteArray)) (List.getD s2 t13.toNat (⟨#[]⟩:ByteArray))))) (
          some (false,())
          ) (
          J1 n m (s1,s2,t12,(IntKind.i64.wrap (t13+(1:Int))),())
          )
        )
      )
    ) (
    J2 n (())
    ):=(yah _).trans (by kernel_rfl)
theorem e2 (n:Nat):J2 n (()) =
  some (true,()):=(yah _).trans (by kernel_rfl)
theorem phi (n:Nat):∀ e∈(X n).c.Φ,EntryOk Tryz.prog e:=yax
theorem ok (n:Nat):FnOk Tryz.prog 169 ia io (fRun (X n) n T Tryz.f169 ia io):=yaH mixed tabIs (phi n) Tryz.func169 (by kernel_rfl) rfl
noncomputable def en (n:Nat):Entry:=yaD 169 ia io (fRun (X n) n T Tryz.f169 ia io)
end ybo
end Go.Proofs.YtdlkpmohjhjmfaaGreatDoor

namespace Go.Proofs.YtdlkpmohjhjmfaaGreatDoor
open Go Go.Va Go.Proofs
namespace ydi
abbrev ia:List Ai:=[.dat yb1,.dat yb1]
abbrev io:List (Nat×Oi):=[(4,.dat .bool)]
abbrev R:Type:=DOut ia io
noncomputable def X (n:Nat):Ctx:=⟨⟨tab,[ybg.en n,ya4.en n,ya9.en n,ybk.en n,ybo.en n],0,[]⟩,59,bnOf 0 ia⟩
noncomputable def T:CT := .o
noncomputable def f (n:Nat)(a:ybG)(b:ybG):Option R:=fRun (X n) n T Tryz.f106 ia io (a,b,())
theorem e0 (n : Nat) (a:ybG) (b:ybG):f n a b =
  bIf ((hide (a.1==b.1))) (
    bIf ((hide (a.2.1==b.2.1))) (
      bIf ((hide (a.2.2.2.2.2.1==b.2.2.2.2.2.1))) (
        bnd (ybg.f n a.2.2.1 b.2.2.1) λu1=>
        bIf (u1.1) (
          bnd (ya9.f n a.2.2.2.1 b.2.2.2.1) λu2=>
          bIf (u2.1) (
            bnd (ybk.f n a.2.2.2.2.1 b.2.2.2.2.1) λu3=>
            bIf (u3.1) (
              bnd (ya4.f n a.2.2.2.2.2.2.1 b.2.2.2.2.2.2.1) λu4=>
              bIf (u4.1) (
                bnd (ybo.f n a.2.2.2.2.2.2.2.1 b.2.2.2.2.2.2.2.1) λu5=>
                some (u5.1,())
                ) (
                some (false,())
                )
              ) (
              some (false,())
              )
            ) (
            some (false,())
            )
          ) (
          some (false,())
          )
        ) (
        some (false,())
        )
      ) (
      some (false,())
      )
    ) (
    some (false,())
    ):=(yah _).trans (by kernel_rfl)
theorem phi (n:Nat):∀ e∈(X n).c.Φ,EntryOk Tryz.prog e:=yae (yac (ybg.ok n)) (yae (yac (ya4.ok n)) (yae (yac (ya9.ok n)) (yae (yac (ybk.ok n)) (yae (yac (ybo.ok n)) (yax)))))
theorem ok (n:Nat):FnOk Tryz.prog 106 ia io (fRun (X n) n T Tryz.f106 ia io):=yaH mixed tabIs (phi n) Tryz.func106 (by kernel_rfl) rfl
noncomputable def en (n:Nat):Entry:=yaD 106 ia io (fRun (X n) n T Tryz.f106 ia io)
end ydi
end Go.Proofs.YtdlkpmohjhjmfaaGreatDoor

namespace Go.Proofs.YtdlkpmohjhjmfaaGreatDoor
open Go Go.Va Go.Proofs
namespace ydr
abbrev ia:List Ai:=[.dat yb1]
abbrev io:List (Nat×Oi):=[(2,.dat .bool)]
abbrev R:Type:=DOut ia io
noncomputable def X (n:Nat):Ctx:=⟨⟨tab,[ydi.en n,ydt.en n,ycs.en n,ybS.en n,ybR.en n,ybE.en n],0,[]⟩,67,bnOf 0 ia⟩
abbrev g1:List Si:=[.ref 1 1 yb1,.box 1 (.d yb1)]
abbrev g2:List Si:=[.ref 1 1 yb1,.box 1 (.d yb1)]
abbrev g3:List Si:=[.ref 1 1 yb1,.box 1 (.d yb1)]
noncomputable def T:CT:=(.s .o (.s .o (.r g1 (.s .o (.s .o (.r g2 (.s .o (.r g3 .o))))))))
noncomputable def J1 (n:Nat):ybG×Unit→Option R:=jR (X n) n T (yaR Tryz.f56) (endK ia io) g1 [1,1] []
noncomputable def J2 (n:Nat):ybG×Unit→Option R:=jR (X n) n T (yaR Tryz.f56) (endK ia io) g2 [1,1,1,1] []
noncomputable def J3 (n:Nat):ybG×Unit→Option R:=jR (X n) n T (yaR Tryz.f56) (endK ia io) g3 [1,1,1,1,1] []
noncomputable def f (n:Nat)(r:ybG):Option R:=fRun (X n) n T Tryz.f56 ia io (r,())
theorem e0 (n:Nat)(r:ybG):f n r =
  bIf ((hide (decide (r.1<(0:Int))))) (
    some (false,())
    ) (
    bIf ((hide (decide (r.1>(18:Int))))) (
      some (false,())
      ) (
      J1 n (r,())
      )
    ):=(yah _).trans (by kernel_rfl)
theorem e1 (n:Nat) (r:ybG):J1 n (r,()) =
  bIf ((hide (r.1 != (0:Int)))) (
    bnd (ydi.f n r (r.1,(0,([],((0,(false,(0,(0,((List.replicate 32 0),(0,((0,(0,(false,()))),([],())))))))),([],(false,([],([],()))))))))) λu1=>
    some (u1.1,())
    ) (
    bIf ((hide (decide (((r.2.2.1.length:Nat):Int)>(16384:Int))))) (
      some (false,())
      ) (
      bnd (ydt.f n r.2.2.2.1) λu2=>
      bIf ((!u2.1)) (
        bnd (ycs.f n r.2.2.2.1) λu3=>
        bIf ((!u3.1)) (
          some (false,())
          ) (
          J2 n (r,())
          )
        ) (
        J2 n (r,())
        )
      )
    ):=(yah _).trans (by kernel_rfl)
theorem e2 (n:Nat) (r:ybG):J2 n (r,()) =
  bIf ((hide (decide (((r.2.2.2.2.1.length:Nat):Int)>(100:Int))))) (
    some (false,())
    ) (
    bIf ((hide (decide (((r.2.2.2.2.2.2.1.length:Nat):Int)>(8:Int))))) (
      some (false,())
      ) (
      bIf ((hide (decide (((r.2.2.2.2.2.2.2.1.length:Nat):Int)>(16:Int))))) (
        some (false,())
        ) (
        J3 n (r,())
        )
      )
    ):=(yah _).trans (by kernel_rfl)
theorem e3 (n:Nat)(r:ybG):J3 n (r,()) =
  bnd (ybS.f n r.2.2.2.2.1) λu1=>
  bIf ((!u1.1)) (
    bnd (ybR.f n r.2.2.2.2.2.2.1) λu2=>
    bIf ((!u2.1)) (
      bnd (ybE.f n r.2.2.2.2.2.2.2.1) λu3=>
      some ((!u3.1),())
      ) (
      some (false,())
      )
    ) (
    some (false,())
    ):=(yah _).trans (by kernel_rfl)
theorem phi (n:Nat):∀ e∈(X n).c.Φ,EntryOk Tryz.prog e:=yae (yac (ydi.ok n)) (yae (yac (ydt.ok n)) (yae (yac (ycs.ok n)) (yae (yac (ybS.ok n)) (yae (yac (ybR.ok n)) (yae (yac (ybE.ok n)) (yax))))))
theorem ok (n:Nat):FnOk Tryz.prog 56 ia io (fRun (X n) n T Tryz.f56 ia io):=yaH mixed tabIs (phi n) Tryz.func56 (by kernel_rfl) rfl
noncomputable def en (n:Nat):Entry:=yaD 56 ia io (fRun (X n) n T Tryz.f56 ia io)
end ydr
end Go.Proofs.YtdlkpmohjhjmfaaGreatDoor

namespace Go.Proofs.YtdlkpmohjhjmfaaGreatDoor
open Go Go.Va Go.Proofs
namespace ycc
abbrev ia:List Ai:=[.fn (.str 2) [(.p (.r 0 (.int .u8)) (.d .unit))],.dat (.slice yb7)]
abbrev io:List (Nat×Oi):=[]
abbrev R:Type:=DOut ia io
noncomputable def X (n:Nat):Ctx:=⟨⟨tab,[yam.en n,yas.en n,yaJ.en n,ybt.en n],0,[]⟩,43,bnOf 0 ia⟩
abbrev g1:List Si:=[.ref 2 2 ybB,.dat 13 (.slice yb7),.dat 14 (.int .i64),.dat 15 (.int .i64),.box 2 (.p (.p (.al 500000 ybr) (.d .unit)) (.d .unit)),.box 500000 (.p (.r 100000500000000 (.int .u8)) (.d .unit))]
noncomputable def T:CT:=(.s .o (.s .o (.s .o (.b (.l g1 .o)))))
noncomputable def J1 (n:Nat)(m:Nat):(List (yci))×Int×Int×yaY×yaC×Unit→Option R:=jL (X n) n T (yaR Tryz.f63) (endK ia io) g1 [1,1,1,0] [] m
noncomputable def f (n:Nat)(wc0:yaC)(list:List (yci)):Option R:=fRun (X n) n T Tryz.f63 ia io (wc0,list,())
theorem e0 (n:Nat)(wc0:yaC)(list:List (yci)):f n wc0 list =
  bnd (yam.f n (wc0.1,wc0.2) (IntKind.u64.wrap ((list.length:Nat):Int))) λu1=>
  J1 n n (list,((list.length:Nat):Int),0,(((),()),()),(u1.1.1,u1.1.2),()):=(yah _).trans (by kernel_rfl)
theorem e1 (n m:Nat) (t13:List (yci)) (t14:Int) (t15:Int) (w_:yaY) (b500000:yaC):J1 n (m+1) (t13,t14,t15,w_,b500000,()) =
  bIf ((hide (decide (t15<t14)))) (
    gIf (0≤t15∧t15<((t13.length:Nat):Int)) (
      bnd (yas.f n (b500000.1,b500000.2) ((List.getD t13 t15.toNat (Va.dflt yb7)).1)) λu1=>
      bnd (yaJ.f n (u1.1.1,u1.1.2) (((List.getD t13 t15.toNat (Va.dflt yb7)).2).1)) λu2=>
      bIf ((!(((List.getD t13 t15.toNat (Va.dflt yb7)).2).1))) (
        bnd (ybt.f n (u2.1.1,u2.1.2) ((((List.getD t13 t15.toNat (Va.dflt yb7)).2).2).1)) λu3=>
        bnd (yaJ.f n (u3.1.1,u3.1.2) (((((List.getD t13 t15.toNat (Va.dflt yb7)).2).2).2).1)) λu4=>
        J1 n m (t13,t14,(IntKind.i64.wrap (t15+(1:Int))),(((),w_.1.2),w_.2),(u4.1.1,u4.1.2),())
        ) (
        J1 n m (t13,t14,(IntKind.i64.wrap (t15+(1:Int))),(((),w_.1.2),w_.2),(u2.1.1,u2.1.2),())
        )
      )
    ) (
    some ((b500000.1,b500000.2),())
    ):=(yah _).trans (by kernel_rfl)
theorem phi (n:Nat):∀ e∈(X n).c.Φ,EntryOk Tryz.prog e:=yae (yac (yam.ok n)) (yae (yac (yas.ok n)) (yae (yac (yaJ.ok n)) (yae (yac (ybt.ok n)) (yax))))
theorem ok (n:Nat):FnOk Tryz.prog 63 ia io (fRun (X n) n T Tryz.f63 ia io):=yaH mixed tabIs (phi n) Tryz.func63 (by kernel_rfl) rfl
noncomputable def en (n:Nat):Entry:=yaD 63 ia io (fRun (X n) n T Tryz.f63 ia io)
end ycc
end Go.Proofs.YtdlkpmohjhjmfaaGreatDoor

namespace Go.Proofs.YtdlkpmohjhjmfaaGreatDoor
open Go Go.Va Go.Proofs
namespace ych
abbrev ia:List Ai:=[.dat yb1]
abbrev io:List (Nat×Oi):=[(2,.dat (.slice (.int .u8))),(3,.dat (.int .i64))]
abbrev R:Type:=DOut ia io
noncomputable def X (n:Nat):Ctx:=⟨⟨tab,[ydr.en n,ybF.en n,yam.en n,ybW.en n,yas.en n,yaJ.en n,ybt.en n,ycc.en n],0,[]⟩,106,bnOf 0 ia⟩
abbrev g1:List Si:=[.ref 1 1 yb1,.ref 4 4 ybB,.box 1 (.d yb1),.box 4 (.p (.p (.al 1500000000012 ybr) (.d .unit)) (.d .unit)),.box 1500000000012 (.p (.r 1600000000012000 (.int .u8)) (.d .unit))]
abbrev g2:List Si:=[.ref 1 1 yb1,.ref 4 4 ybB,.dat 68 (.slice (.int .i64)),.dat 69 (.int .i64),.dat 70 (.int .i64),.box 1 (.d yb1),.box 4 (.p (.p (.al 1500000000012 ybr) (.d .unit)) (.d .unit)),.box 1500000000012 (.p (.r 1600000000012000 (.int .u8)) (.d .unit))]
abbrev g3:List Si:=[.ref 1 1 yb1,.ref 4 4 ybB,.box 1 (.d yb1),.box 4 (.p (.p (.al 1500000000012 ybr) (.d .unit)) (.d .unit)),.box 1500000000012 (.p (.r 1600000000012000 (.int .u8)) (.d .unit))]
abbrev g4:List Si:=[.ref 4 4 ybB,.dat 90 (.slice .str),.dat 91 (.int .i64),.dat 92 (.int .i64),.box 4 (.p (.p (.al 1500000000012 ybr) (.d .unit)) (.d .unit)),.box 1500000000012 (.p (.r 1600000000012000 (.int .u8)) (.d .unit))]
abbrev g5:List Si:=[.ref 4 4 ybB,.box 4 (.p (.p (.al 1500000000012 ybr) (.d .unit)) (.d .unit)),.box 1500000000012 (.p (.r 1600000000012000 (.int .u8)) (.d .unit))]
noncomputable def T:CT:=(.s .o (.s .o (.s .o (.s .o (.s .o (.s .o (.s .o (.r g1 (.s .o (.s .o (.s (.s .o (.b (.l g2 .o))) (.r g3 (.s .o (.s (.s .o (.b (.l g4 .o))) (.r g5 .o)))))))))))))))
noncomputable def J1 (n:Nat):ybG×yaY×yaC×Unit→Option R:=jR (X n) n T (yaR Tryz.f28) (endK ia io) g1 [1,1,1,1,1,1,1] []
noncomputable def J2 (n:Nat)(m:Nat):(List (Int))×Int×Int×ybG×yaY×yaC×Unit→Option R:=jL (X n) n T (yaR Tryz.f28) (endK ia io) g2 [1,1,1,1,1,1,1,1,1,0,1,0] [] m
noncomputable def J3 (n:Nat):ybG×yaY×yaC×Unit→Option R:=jR (X n) n T (yaR Tryz.f28) (endK ia io) g3 [1,1,1,1,1,1,1,1,1,1] []
noncomputable def J4 (n:Nat)(m:Nat):(List (ByteArray))×Int×Int×yaY×yaC×Unit→Option R:=jL (X n) n T (yaR Tryz.f28) (endK ia io) g4 [1,1,1,1,1,1,1,1,1,1,1,0,1,0] [] m
noncomputable def J5 (n:Nat):yaY×yaC×Unit→Option R:=jR (X n) n T (yaR Tryz.f28) (endK ia io) g5 [1,1,1,1,1,1,1,1,1,1,1,1] []
noncomputable def f (n:Nat)(r:ybG):Option R:=fRun (X n) n T Tryz.f28 ia io (r,())
theorem e0 (n:Nat) (r:ybG):f n r =
  bnd (ydr.f n r) λu1=>
  bIf ((!u1.1)) (
    some ([],2,())
    ) (
    bnd (ybF.f n) λu2=>
    bnd (yam.f n (u2.1.1,u2.1.2) (IntKind.u64.wrap r.1)) λu3=>
    bIf ((hide (r.1 != (0:Int)))) (
      bnd (ybW.f n (u3.1.1,u3.1.2)) λu4=>
      some (u4.1,0,())
      ) (
      bnd (yam.f n (u3.1.1,u3.1.2) r.2.1) λu5=>
      bnd (yas.f n (u5.1.1,u5.1.2) (ybp r.2.2.1)) λu6=>
      bnd (yaJ.f n (u6.1.1,u6.1.2) (hide (r.2.2.2.1.1 != (0:Int)))) λu7=>
      bIf ((hide (r.2.2.2.1.1 != (0:Int)))) (
        bnd (ybt.f n (u7.1.1,u7.1.2) r.2.2.2.1) λu8=>
        J1 n (r,(((),()),()),(u8.1.1,u8.1.2),())
        ) (
        J1 n (r,(((),()),()),(u7.1.1,u7.1.2),())
        )
      )
    ):=(yah _).trans (by kernel_rfl)
theorem e1 (n:Nat)(r:ybG)(w_:yaY)(b1500000000012:yaC):J1 n (r,w_,b1500000000012,()) =
  bnd (ycc.f n (b1500000000012.1,b1500000000012.2) r.2.2.2.2.1) λu1=>
  bnd (yaJ.f n (u1.1.1,u1.1.2) r.2.2.2.2.2.1) λu2=>
  bnd (yam.f n (u2.1.1,u2.1.2) (IntKind.u64.wrap ((r.2.2.2.2.2.2.1.length:Nat):Int))) λu3=>
  J2 n n (r.2.2.2.2.2.2.1,((r.2.2.2.2.2.2.1.length:Nat):Int),0,r,(((),w_.1.2),w_.2),(u3.1.1,u3.1.2),()):=(yah _).trans (by kernel_rfl)
theorem e2 (n m:Nat)(t68:List (Int))(t69:Int)(t70:Int)(r:ybG)(w_:yaY)(b1500000000012:yaC):J2 n (m+1) (t68,t69,t70,r,w_,b1500000000012,()) =
  bIf ((hide (decide (t70<t69)))) (
    gIf (0≤t70∧t70<((t68.length:Nat):Int)) (
      bnd (yam.f n (b1500000000012.1,b1500000000012.2) (IntKind.u64.wrap (List.getD t68 t70.toNat 0))) λu1=>
      J2 n m (t68,t69,(IntKind.i64.wrap (t70+(1:Int))),r,(((),w_.1.2),w_.2),(u1.1.1,u1.1.2),())
      )
    ) (
    J3 n (r,(((),w_.1.2),w_.2),(b1500000000012.1,b1500000000012.2),())
    ):=(yah _).trans (by kernel_rfl)
theorem e3 (n:Nat)(r:ybG)(w_:yaY)(b1500000000012:yaC):J3 n (r,w_,b1500000000012,()) =
  bnd (yam.f n (b1500000000012.1,b1500000000012.2) (IntKind.u64.wrap ((r.2.2.2.2.2.2.2.1.length:Nat):Int))) λu1=>
  J4 n n (r.2.2.2.2.2.2.2.1,((r.2.2.2.2.2.2.2.1.length:Nat):Int),0,(((),w_.1.2),w_.2),(u1.1.1,u1.1.2),()):=(yah _).trans (by kernel_rfl)
theorem e4 (n m:Nat)(t90:List (ByteArray))(t91:Int)(t92:Int)(w_:yaY)(b1500000000012:yaC):J4 n (m+1) (t90,t91,t92,w_,b1500000000012,()) =
  bIf ((hide (decide (t92<t91)))) (
    gIf (0≤t92∧t92<((t90.length:Nat):Int)) (
      bnd (yas.f n (b1500000000012.1,b1500000000012.2) (List.getD t90 t92.toNat (⟨#[]⟩:ByteArray))) λu1=>
      J4 n m (t90,t91,(IntKind.i64.wrap (t92+(1:Int))),(((),w_.1.2),w_.2),(u1.1.1,u1.1.2),())
      )
    ) (
    J5 n ((((),w_.1.2),w_.2),(b1500000000012.1,b1500000000012.2),())
    ):=(yah _).trans (by kernel_rfl)
theorem e5 (n:Nat)(w_:yaY)(b1500000000012:yaC):J5 n (w_,b1500000000012,()) =
  bnd (ybW.f n (b1500000000012.1,b1500000000012.2)) λu1=>
  some (u1.1,0,()):=(yah _).trans (by kernel_rfl)
theorem phi (n:Nat):∀ e∈(X n).c.Φ,EntryOk Tryz.prog e:=yae (yac (ydr.ok n)) (yae (yac (ybF.ok n)) (yae (yac (yam.ok n)) (yae (yac (ybW.ok n)) (yae (yac (yas.ok n)) (yae (yac (yaJ.ok n)) (yae (yac (ybt.ok n)) (yae (yac (ycc.ok n)) (yax))))))))
theorem ok (n:Nat):FnOk Tryz.prog 28 ia io (fRun (X n) n T Tryz.f28 ia io):=yaH mixed tabIs (phi n) Tryz.func28 (by kernel_rfl) rfl
noncomputable def en (n:Nat):Entry:=yaD 28 ia io (fRun (X n) n T Tryz.f28 ia io)
end ych
end Go.Proofs.YtdlkpmohjhjmfaaGreatDoor

