/-
  What the functions compute, by the abstract interpreter.
-/
import Derived.Test.YtdlkpmohjhjmfaaGreatDoorVaTree
import Derived.Test.YtdlkpmohjhjmfaaGreatDoorChecked
import Derived.Lib.LaidU8T
import Derived.Lib.ItoaNum
import Derived.Test.YtdlkpmohjhjmfaaGreatDoorVaLeaf
import Derived.Shelf.Unicode.ValidAny
import Derived.Shelf.Small.Strs
import Derived.Shelf.Strings.Split
import Derived.Shelf.Strings.SlTrimAscii
import Derived.Shelf.Strconv.Itoa4
import Derived.Shelf.Strconv.ParseIntPublic10
import Derived.Shelf.Strings.OnBuilder
import Derived.Shelf.Strings.Cut
import Derived.Laws.IdiomRangeMap
import Derived.WalkKit
set_option linter.unusedVariables false
set_option linter.unusedSimpArgs false
namespace Go.Proofs.YtdlkpmohjhjmfaaGreatDoor
open Go Go.Va Go.Proofs
abbrev T_errors_errorString : Ty := (.pair .str .unit)
abbrev T_entry_Reader : Ty := (.pair (.opq 0) .unit)
abbrev D_entry_Reader : Type := Unit × Unit
abbrev T_pack_Writer : Ty := (.pair (.slice (.int .u8)) .unit)
abbrev D_pack_Writer : Type := (List (Int)) × Unit
abbrev T_api_Tag : Ty := (.pair .str T_errors_errorString)
abbrev D_api_Tag : Type := ByteArray × ByteArray × Unit
abbrev T_wire_reader : Ty := (.pair T_entry_Reader .unit)
abbrev D_wire_reader : Type := D_entry_Reader × Unit
abbrev T_runtime_errorAddressString : Ty := (.pair .str (.pair (.int .u64) .unit))
abbrev T_glob_piece : Ty := (.pair (.int .i64) (.pair (.int .u8) .unit))
abbrev D_glob_piece : Type := Int × Int × Unit
abbrev T_api_Default : Ty := (.pair (.int .i64) (.pair (.int .i64) .unit))
abbrev D_api_Default : Type := Int × Int × Unit
abbrev T_strings_Builder : Ty := (.pair (.opq 0) T_pack_Writer)
abbrev T_pack_Reader : Ty := (.pair (.slice (.int .u8)) (.pair (.int .i64) .unit))
abbrev D_pack_Reader : Type := (List (Int)) × Int × Unit
abbrev T_api_Spot : Ty := (.pair .str T_runtime_errorAddressString)
abbrev D_api_Spot : Type := ByteArray × ByteArray × Int × Unit
abbrev T_api_Lock : Ty := (.pair (.int .i64) (.pair (.int .i64) (.pair .bool .unit)))
abbrev D_api_Lock : Type := Int × Int × Bool × Unit
abbrev T_api_Grant : Ty := (.pair .bool (.pair .str T_api_Tag))
abbrev D_api_Grant : Type := Bool × ByteArray × ByteArray × ByteArray × Unit
abbrev T_api_Part : Ty := (.pair (.int .i64) (.pair (.int .i64) (.pair (.int .u64) (.pair (.arr 32 (.int .u8)) .unit))))
abbrev D_api_Part : Type := Int × Int × Int × (List (Int)) × Unit
abbrev T_api_Rule : Ty := (.pair .str (.pair (.slice T_api_Tag) T_api_Lock))
abbrev D_api_Rule : Type := ByteArray × (List (D_api_Tag)) × Int × Int × Bool × Unit
abbrev T_api_Version : Ty := (.pair (.int .u64) (.pair .bool (.pair (.int .i64) (.pair (.int .u64) (.pair (.arr 32 (.int .u8)) (.pair (.int .i64) (.pair T_api_Lock (.pair (.slice T_api_Tag) .unit))))))))
abbrev D_api_Version : Type := Int × Bool × Int × Int × (List (Int)) × Int × D_api_Lock × (List (D_api_Tag)) × Unit
abbrev T_api_Row : Ty := (.pair .str (.pair .bool (.pair T_api_Version (.pair .bool .unit))))
abbrev D_api_Row : Type := ByteArray × Bool × D_api_Version × Bool × Unit
abbrev T_api_Request : Ty := (.pair (.int .i64) (.pair .str (.pair .str (.pair .str (.pair (.int .u64) (.pair (.slice (.int .u8)) (.pair (.slice T_api_Tag) (.pair T_api_Lock (.pair .bool (.pair T_api_Default (.pair (.slice T_api_Rule) (.pair (.slice T_api_Grant) (.pair (.int .i64) (.pair (.slice (.int .i64)) (.pair .str (.pair .str (.pair .str (.pair T_api_Spot (.pair (.int .i64) .unit)))))))))))))))))))
abbrev D_api_Request : Type := Int × ByteArray × ByteArray × ByteArray × Int × (List (Int)) × (List (D_api_Tag)) × D_api_Lock × Bool × D_api_Default × (List (D_api_Rule)) × (List (D_api_Grant)) × Int × (List (Int)) × ByteArray × ByteArray × ByteArray × D_api_Spot × Int × Unit
abbrev T_api_Reply : Ty := (.pair (.int .i64) (.pair (.int .u64) (.pair (.slice (.int .u8)) (.pair T_api_Version (.pair (.slice T_api_Row) (.pair .bool (.pair (.slice (.int .i64)) (.pair (.slice .str) .unit))))))))
abbrev D_api_Reply : Type := Int × Int × (List (Int)) × D_api_Version × (List (D_api_Row)) × Bool × (List (Int)) × (List (ByteArray)) × Unit
abbrev T_acts_strip : Ty := (.pair T_api_Request (.pair .bool .unit))
abbrev D_acts_strip : Type := D_api_Request × Bool × Unit
abbrev T_api_Act : Ty := (.pair (.int .i64) (.pair T_api_Request (.pair (.int .i64) (.pair (.int .i64) (.pair (.slice (.int .i64)) .unit)))))
abbrev D_api_Act : Type := Int × D_api_Request × Int × Int × (List (Int)) × Unit
abbrev T_api_Entry : Ty := (.pair (.int .i64) (.pair (.int .i64) (.pair .str (.pair .str (.pair (.int .u64) (.pair T_api_Version (.pair T_api_Lock (.pair (.slice T_api_Tag) (.pair T_api_Default (.pair (.slice T_api_Rule) (.pair (.slice T_api_Grant) (.pair T_api_Part .unit))))))))))))
abbrev D_api_Entry : Type := Int × Int × ByteArray × ByteArray × Int × D_api_Version × D_api_Lock × (List (D_api_Tag)) × D_api_Default × (List (D_api_Rule)) × (List (D_api_Grant)) × D_api_Part × Unit
noncomputable def tab : List (Nat × TE) := [(2, ⟨(.int .i64), 0⟩), (3, ⟨(.int .i64), 0⟩), (4, ⟨.bool, 0⟩), (5, ⟨(.int .u8), 0⟩), (9, ⟨.str, 0⟩), (22, ⟨(.int .u64), 0⟩), (23, ⟨(.slice (.int .u8)), 1⟩), (24, ⟨(.slice T_api_Tag), 32⟩), (25, ⟨T_api_Lock, 0⟩), (26, ⟨T_api_Lock, 0⟩), (27, ⟨T_api_Default, 0⟩), (28, ⟨T_api_Default, 0⟩), (29, ⟨(.slice T_api_Rule), 64⟩), (30, ⟨(.slice T_api_Grant), 56⟩), (31, ⟨(.slice (.int .i64)), 8⟩), (32, ⟨T_api_Spot, 0⟩), (33, ⟨T_api_Spot, 0⟩), (34, ⟨T_api_Request, 0⟩), (35, ⟨T_api_Request, 0⟩), (36, ⟨T_api_Act, 0⟩), (37, ⟨T_api_Act, 0⟩), (38, ⟨(.int .i64), 0⟩), (49, ⟨(.slice T_api_Act), 384⟩), (52, ⟨(.opq 1), 0⟩), (53, ⟨(.arr 32 (.int .u8)), 0⟩), (54, ⟨(.arr 32 (.int .u8)), 0⟩), (55, ⟨T_api_Version, 0⟩), (56, ⟨T_api_Version, 0⟩), (57, ⟨(.slice T_api_Row), 152⟩), (58, ⟨(.slice .str), 16⟩), (59, ⟨T_api_Reply, 0⟩), (60, ⟨T_api_Reply, 0⟩), (86, ⟨T_api_Row, 0⟩), (87, ⟨T_api_Row, 0⟩), (88, ⟨(.opq 0), 0⟩), (89, ⟨T_strings_Builder, 0⟩), (90, ⟨T_strings_Builder, 0⟩), (92, ⟨(.opq 3), 0⟩), (93, ⟨(.opq 3), 0⟩), (103, ⟨.smap, 0⟩), (106, ⟨(.slice (.int .i64)), 8⟩), (111, ⟨T_api_Part, 0⟩), (112, ⟨T_api_Part, 0⟩), (113, ⟨T_api_Entry, 0⟩), (114, ⟨T_api_Entry, 0⟩), (116, ⟨(.opq 0), 0⟩), (117, ⟨T_entry_Reader, 0⟩), (118, ⟨T_entry_Reader, 0⟩), (120, ⟨T_wire_reader, 0⟩), (121, ⟨T_wire_reader, 0⟩), (128, ⟨(.int .u64), 0⟩), (159, ⟨(.opq 1), 0⟩), (161, ⟨(.opq 1), 0⟩), (166, ⟨T_pack_Writer, 0⟩), (167, ⟨T_pack_Writer, 0⟩), (175, ⟨T_api_Tag, 0⟩), (176, ⟨T_api_Tag, 0⟩), (179, ⟨(.opq 0), 0⟩), (180, ⟨T_acts_strip, 0⟩), (181, ⟨T_acts_strip, 0⟩), (187, ⟨T_api_Grant, 0⟩), (188, ⟨T_api_Grant, 0⟩), (197, ⟨T_api_Rule, 0⟩), (198, ⟨T_api_Rule, 0⟩), (200, ⟨(.opq 0), 0⟩), (201, ⟨T_entry_Reader, 0⟩), (202, ⟨T_entry_Reader, 0⟩), (204, ⟨T_wire_reader, 0⟩), (205, ⟨T_wire_reader, 0⟩), (207, ⟨(.opq 0), 0⟩), (216, ⟨(.opq 1), 0⟩), (225, ⟨(.opq 1), 0⟩), (231, ⟨(.slice T_glob_piece), 16⟩), (243, ⟨T_pack_Reader, 0⟩), (244, ⟨T_pack_Reader, 0⟩), (257, ⟨(.opq 1), 0⟩), (259, ⟨(.opq 1), 0⟩), (261, ⟨T_glob_piece, 0⟩), (262, ⟨T_glob_piece, 0⟩), (281, ⟨(.slice T_glob_piece), 16⟩), (291, ⟨T_glob_piece, 0⟩), (292, ⟨T_glob_piece, 0⟩)]
noncomputable def firstCells : List Value := Lib.firstTab.map fun z => Value.int .u8 z
noncomputable def acceptCells : List Value := (List.range 16).flatMap fun i => [Value.int .u8 (Lib.accLo i), Value.int .u8 (Lib.accHi i)]
noncomputable def pow10Cells : Array Value := (Lib.pow10Tab.map fun z => Value.int .u64 z).toArray
def ErrCell (o : Obj) : Prop := ∃ ev t fr, o = .cells #[ev] t fr ∧ (ev = .nilIface ∨ ∃ te pe, ev = .iface te pe)
noncomputable instance : Gl := ⟨[(2, fun cs => cs = firstCells), (3, fun cs => cs = acceptCells), (0, fun cs => ∃ m, cs = [.int .i64 m])], [(1, fun o => ∃ t fr, o = .cells pow10Cells t fr), (6, ErrCell), (7, ErrCell)]⟩
theorem tabIs : TabOk Tryz.prog tab := tabB_ok (by kernel_rfl)
theorem mixed : Tryz.prog.follows .mixedOrders = true := Tryz.checked.mixed
end Go.Proofs.YtdlkpmohjhjmfaaGreatDoor

namespace Go.Proofs
open Go.Shelf
def Tryz.l146_ren : Go.Shelf.Ren := ⟨fun | 146 => 25 | 221 => 53 | 268 => 99 | 138 => 100 | 143 => 101 | 195 => 159 | 197 => 160 | 218 => 161 | 219 => 105 | 260 => 221 | 217 => 162 | 225 => 163 | 224 => 164 | 267 => 165 | 266 => 222 | 314 => 223 | n => n, fun | 9 => 9 | 31 => 58 | 3 => 3 | 4 => 4 | 0 => 0 | 105 => 212 | 21 => 21 | 5 => 5 | 46 => 128 | 119 => 251 | 139 => 254 | 138 => 253 | 146 => 247 | 51 => 228 | n => n, fun | 1 => 0 | 3 => 2 | 4 => 3 | n => n⟩
theorem Tryz.l146 : Go.Proofs.Lays.n146 Tryz.prog Tryz.l146_ren := {
  mixed := by kernel_rfl
  f138 := Tryz.func100.trans (congrArg some (by kernel_rfl))
  f143 := Tryz.func101.trans (congrArg some (by kernel_rfl))
  f146 := Tryz.func25.trans (congrArg some (by kernel_rfl))
  f195 := Tryz.func159.trans (congrArg some (by kernel_rfl))
  f197 := Tryz.func160.trans (congrArg some (by kernel_rfl))
  f217 := Tryz.func162.trans (congrArg some (by kernel_rfl))
  f218 := Tryz.func161.trans (congrArg some (by kernel_rfl))
  f219 := Tryz.func105.trans (congrArg some (by kernel_rfl))
  f221 := Tryz.func53.trans (congrArg some (by kernel_rfl))
  f224 := Tryz.func164.trans (congrArg some (by kernel_rfl))
  f225 := Tryz.func163.trans (congrArg some (by kernel_rfl))
  f260 := Tryz.func221.trans (congrArg some (by kernel_rfl))
  f266 := Tryz.func222.trans (congrArg some (by kernel_rfl))
  f267 := Tryz.func165.trans (congrArg some (by kernel_rfl))
  f268 := Tryz.func99.trans (congrArg some (by kernel_rfl))
  f314 := Tryz.func223.trans (congrArg some (by kernel_rfl))
  t0 := Tryz.underlying0
  a0 := Tryz.isAgg0
  z0 := Tryz.sizeOf0
  v0 := Tryz.zeroValue0
  t3 := Tryz.underlying3
  a3 := Tryz.isAgg3
  z3 := Tryz.sizeOf3
  v3 := Tryz.zeroValue3
  t4 := Tryz.underlying4
  a4 := Tryz.isAgg4
  z4 := Tryz.sizeOf4
  v4 := Tryz.zeroValue4
  t5 := Tryz.underlying5
  a5 := Tryz.isAgg5
  z5 := Tryz.sizeOf5
  v5 := Tryz.zeroValue5
  t9 := Tryz.underlying9
  a9 := Tryz.isAgg9
  z9 := Tryz.sizeOf9
  v9 := Tryz.zeroValue9
  t21 := Tryz.underlying21
  a21 := Tryz.isAgg21
  z21 := Tryz.sizeOf21
  v21 := Tryz.zeroValue21
  t31 := Tryz.underlying58
  a31 := Tryz.isAgg58
  z31 := Tryz.sizeOf58
  v31 := Tryz.zeroValue58
  t46 := Tryz.underlying128
  a46 := Tryz.isAgg128
  z46 := Tryz.sizeOf128
  v46 := Tryz.zeroValue128
  t51 := Tryz.underlying228
  a51 := Tryz.isAgg228
  z51 := Tryz.sizeOf228
  v51 := Tryz.zeroValue228
  t105 := Tryz.underlying212
  a105 := Tryz.isAgg212
  z105 := Tryz.sizeOf212
  v105 := Tryz.zeroValue212
  t119 := Tryz.underlying251
  a119 := Tryz.isAgg251
  z119 := Tryz.sizeOf251
  t138 := Tryz.underlying253
  a138 := Tryz.isAgg253
  z138 := Tryz.sizeOf253
  v138 := Tryz.zeroValue253
  t139 := Tryz.underlying254
  a139 := Tryz.isAgg254
  z139 := Tryz.sizeOf254
  v139 := Tryz.zeroValue254
  t146 := Tryz.underlying247
  a146 := Tryz.isAgg247
  z146 := Tryz.sizeOf247
  v146 := Tryz.zeroValue247
  g1 := by kernel_rfl
  g3 := by kernel_rfl
  g4 := by kernel_rfl }
def Tryz.l160_ren : Go.Shelf.Ren := ⟨fun | 160 => 226 | 232 => 245 | 231 => 244 | 227 => 246 | 234 => 248 | 233 => 247 | 236 => 250 | 235 => 249 | 228 => 259 | 271 => 261 | 151 => 260 | 197 => 160 | 120 => 263 | 152 => 262 | 260 => 221 | 137 => 152 | 119 => 264 | 224 => 164 | 225 => 163 | 217 => 162 | 266 => 222 | n => n, fun | 9 => 9 | 4 => 4 | 3 => 3 | 5 => 5 | 117 => 275 | 116 => 274 | 0 => 0 | 124 => 278 | 21 => 21 | 105 => 212 | 46 => 128 | 119 => 251 | 139 => 254 | 138 => 253 | n => n, fun | 3 => 2 | 4 => 3 | n => n⟩
theorem Tryz.l160 : Go.Proofs.Lays.n160 Tryz.prog Tryz.l160_ren := {
  mixed := by kernel_rfl
  f119 := Tryz.func264.trans (congrArg some (by kernel_rfl))
  f120 := Tryz.func263.trans (congrArg some (by kernel_rfl))
  f137 := Tryz.func152.trans (congrArg some (by kernel_rfl))
  f151 := Tryz.func260.trans (congrArg some (by kernel_rfl))
  f152 := Tryz.func262.trans (congrArg some (by kernel_rfl))
  f160 := Tryz.func226.trans (congrArg some (by kernel_rfl))
  f197 := Tryz.func160.trans (congrArg some (by kernel_rfl))
  f217 := Tryz.func162.trans (congrArg some (by kernel_rfl))
  f224 := Tryz.func164.trans (congrArg some (by kernel_rfl))
  f225 := Tryz.func163.trans (congrArg some (by kernel_rfl))
  f227 := Tryz.func246.trans (congrArg some (by kernel_rfl))
  f228 := Tryz.func259.trans (congrArg some (by kernel_rfl))
  f231 := Tryz.func244.trans (congrArg some (by kernel_rfl))
  f232 := Tryz.func245.trans (congrArg some (by kernel_rfl))
  f233 := Tryz.func247.trans (congrArg some (by kernel_rfl))
  f234 := Tryz.func248.trans (congrArg some (by kernel_rfl))
  f235 := Tryz.func249.trans (congrArg some (by kernel_rfl))
  f236 := Tryz.func250.trans (congrArg some (by kernel_rfl))
  f260 := Tryz.func221.trans (congrArg some (by kernel_rfl))
  f266 := Tryz.func222.trans (congrArg some (by kernel_rfl))
  f271 := Tryz.func261.trans (congrArg some (by kernel_rfl))
  t0 := Tryz.underlying0
  a0 := Tryz.isAgg0
  z0 := Tryz.sizeOf0
  v0 := Tryz.zeroValue0
  t3 := Tryz.underlying3
  a3 := Tryz.isAgg3
  z3 := Tryz.sizeOf3
  v3 := Tryz.zeroValue3
  t4 := Tryz.underlying4
  a4 := Tryz.isAgg4
  z4 := Tryz.sizeOf4
  v4 := Tryz.zeroValue4
  t5 := Tryz.underlying5
  a5 := Tryz.isAgg5
  z5 := Tryz.sizeOf5
  v5 := Tryz.zeroValue5
  t9 := Tryz.underlying9
  a9 := Tryz.isAgg9
  z9 := Tryz.sizeOf9
  v9 := Tryz.zeroValue9
  t21 := Tryz.underlying21
  a21 := Tryz.isAgg21
  z21 := Tryz.sizeOf21
  v21 := Tryz.zeroValue21
  t46 := Tryz.underlying128
  a46 := Tryz.isAgg128
  z46 := Tryz.sizeOf128
  v46 := Tryz.zeroValue128
  t105 := Tryz.underlying212
  a105 := Tryz.isAgg212
  z105 := Tryz.sizeOf212
  v105 := Tryz.zeroValue212
  t116 := Tryz.underlying274
  a116 := Tryz.isAgg274
  z116 := Tryz.sizeOf274
  t117 := Tryz.underlying275
  a117 := Tryz.isAgg275
  z117 := Tryz.sizeOf275
  v117 := Tryz.zeroValue275
  t119 := Tryz.underlying251
  a119 := Tryz.isAgg251
  z119 := Tryz.sizeOf251
  t124 := Tryz.underlying278
  a124 := Tryz.isAgg278
  z124 := Tryz.sizeOf278
  v124 := Tryz.zeroValue278
  t138 := Tryz.underlying253
  a138 := Tryz.isAgg253
  z138 := Tryz.sizeOf253
  v138 := Tryz.zeroValue253
  t139 := Tryz.underlying254
  a139 := Tryz.isAgg254
  z139 := Tryz.sizeOf254
  v139 := Tryz.zeroValue254
  g3 := by kernel_rfl
  g4 := by kernel_rfl }
def Tryz.l196_ren : Go.Shelf.Ren := ⟨fun | 196 => 177 | 259 => 225 | n => n, fun | 9 => 9 | 4 => 4 | 3 => 3 | 5 => 5 | 12 => 12 | 119 => 251 | 0 => 0 | 46 => 128 | 139 => 254 | 138 => 253 | 53 => 22 | n => n, fun | 3 => 2 | 4 => 3 | n => n⟩
theorem Tryz.l196 : Go.Proofs.Lays.n196 Tryz.prog Tryz.l196_ren := {
  mixed := by kernel_rfl
  f196 := Tryz.func177.trans (congrArg some (by kernel_rfl))
  f259 := Tryz.func225.trans (congrArg some (by kernel_rfl))
  t0 := Tryz.underlying0
  a0 := Tryz.isAgg0
  z0 := Tryz.sizeOf0
  v0 := Tryz.zeroValue0
  t3 := Tryz.underlying3
  a3 := Tryz.isAgg3
  z3 := Tryz.sizeOf3
  v3 := Tryz.zeroValue3
  t4 := Tryz.underlying4
  a4 := Tryz.isAgg4
  z4 := Tryz.sizeOf4
  v4 := Tryz.zeroValue4
  t5 := Tryz.underlying5
  a5 := Tryz.isAgg5
  z5 := Tryz.sizeOf5
  v5 := Tryz.zeroValue5
  t9 := Tryz.underlying9
  a9 := Tryz.isAgg9
  z9 := Tryz.sizeOf9
  v9 := Tryz.zeroValue9
  t12 := Tryz.underlying12
  a12 := Tryz.isAgg12
  z12 := Tryz.sizeOf12
  v12 := Tryz.zeroValue12
  t46 := Tryz.underlying128
  a46 := Tryz.isAgg128
  z46 := Tryz.sizeOf128
  v46 := Tryz.zeroValue128
  t53 := Tryz.underlying22
  a53 := Tryz.isAgg22
  z53 := Tryz.sizeOf22
  v53 := Tryz.zeroValue22
  t119 := Tryz.underlying251
  a119 := Tryz.isAgg251
  z119 := Tryz.sizeOf251
  t138 := Tryz.underlying253
  a138 := Tryz.isAgg253
  z138 := Tryz.sizeOf253
  v138 := Tryz.zeroValue253
  t139 := Tryz.underlying254
  a139 := Tryz.isAgg254
  z139 := Tryz.sizeOf254
  v139 := Tryz.zeroValue254
  g3 := by kernel_rfl
  g4 := by kernel_rfl }
def Tryz.l137_ren : Go.Shelf.Ren := ⟨fun | 137 => 152 | 217 => 162 | 266 => 222 | n => n, fun | 9 => 9 | 5 => 5 | 3 => 3 | n => n, fun | n => n⟩
theorem Tryz.l137 : Go.Proofs.Lays.n137 Tryz.prog Tryz.l137_ren := {
  mixed := by kernel_rfl
  f137 := Tryz.func152.trans (congrArg some (by kernel_rfl))
  f217 := Tryz.func162.trans (congrArg some (by kernel_rfl))
  f266 := Tryz.func222.trans (congrArg some (by kernel_rfl))
  t3 := Tryz.underlying3
  a3 := Tryz.isAgg3
  z3 := Tryz.sizeOf3
  v3 := Tryz.zeroValue3
  t5 := Tryz.underlying5
  a5 := Tryz.isAgg5
  z5 := Tryz.sizeOf5
  v5 := Tryz.zeroValue5
  t9 := Tryz.underlying9
  a9 := Tryz.isAgg9
  z9 := Tryz.sizeOf9
  v9 := Tryz.zeroValue9 }
end Go.Proofs
namespace Go.Proofs.YtdlkpmohjhjmfaaGreatDoor
open Go Go.Va Go.Proofs
theorem acc_get : ∀ (i : Nat), i < 16 → acceptCells[2 * i]? = some (Value.int .u8 (Lib.accLo i)) ∧ acceptCells[2 * i + 1]? = some (Value.int .u8 (Lib.accHi i))
  | 0, _ | 1, _ | 2, _ | 3, _ | 4, _ | 5, _ | 6, _ | 7, _ | 8, _ | 9, _ | 10, _ | 11, _ | 12, _ | 13, _ | 14, _ | 15, _ => ⟨rfl, rfl⟩
  | n + 16, h => absurd h (by omega)
theorem utf8Tabs {E : Env} {w : World} (h : GlOk E w) : Lib.Utf8Tabs (Tryz.l196_ren.g 3) (Tryz.l196_ren.g 4) w := by
  obtain ⟨_, c0, e0, h0⟩ := h.1 (2, fun cs => cs = firstCells) (by simp [Gl.tab])
  obtain ⟨_, c1, e1, h1⟩ := h.1 (3, fun cs => cs = acceptCells) (by simp [Gl.tab])
  have e0 : c0 = firstCells := e0
  have e1 : c1 = acceptCells := e1
  subst e0 e1
  have h0 := h0.2
  have h1 := h1.2
  refine ⟨fun c hc => ?_, fun i hi => ?_⟩
  · have := h0 c (by simp [firstCells, Lib.firstTab]; exact hc)
    simp [firstCells, Lib.firstTab] at this
    exact this
  · have hl : acceptCells.length = 32 := by kernel_rfl
    have a0 := h1 (2 * i) (by rw [hl]; omega)
    have a1 := h1 (2 * i + 1) (by rw [hl]; omega)
    obtain ⟨e0, e1⟩ := acc_get i hi
    rw [List.getElem?_eq_getElem (by rw [hl]; omega)] at e0 e1
    simp only [Option.some.injEq] at e0 e1
    simp only [Nat.zero_add] at a0 a1
    rw [e0] at a0
    rw [e1] at a1
    exact ⟨a0, a1⟩
theorem maxLen_cell {E : Env} {w : World} (h : GlOk E w) : ∃ m, w.cell? ⟨Tryz.l146_ren.g 1, 0, none⟩ = some (.int .i64 m) := by
  obtain ⟨_, c, ⟨m, e⟩, h2⟩ := h.1 (0, fun cs => ∃ m, cs = [.int .i64 m]) (by simp [Gl.tab])
  have e : c = [.int .i64 m] := e
  subst e
  have := h2.2 0 (by simp)
  exact ⟨m, this⟩
namespace F_unicode_utf8_ValidString
abbrev ia : List Ai := [.dat .str]
abbrev io : List (Nat × Oi) := [(2, .dat .bool)]
noncomputable def f (s : ByteArray) : Option (DOut ia io) := if s.size ≤ 9223372036854775807 then some (Lib.validD s.data.toList, ()) else none
theorem ok : FnOk Tryz.prog 177 ia io (fun v => f v.1) := by
  refine leaf_ok ⟨Tryz.f177, Tryz.func177, by kernel_rfl, by kernel_rfl⟩ rfl (fun _ => rfl) (fun _ => rfl) (fun v u h E w vals hgl hc => ?_)
  obtain ⟨x, vs, rfl, h1, h3⟩ := hc
  have h3 : vs = [] := h3
  subst h3
  have h1 : x = .string v.1 := V_str.1 h1
  subst h1
  unfold f at h
  split at h
  · next hs =>
    injection h with h
    subst h
    refine (Any.utf8_ValidString Tryz.l196 v.1 w hs (utf8Tabs hgl)).mono ?_
    rintro e w' ⟨rfl, hb⟩
    exact ⟨_, rfl, ⟨hb.os, hb.tape, hb.output, hb.size, hb.block⟩, fun E => V_bool.2 rfl⟩
  · exact absurd h (by simp)
noncomputable def en : Entry := mkEntry 177 ia io (fun v => f v.1)
end F_unicode_utf8_ValidString
namespace F_strings_IndexByte
abbrev ia : List Ai := [.dat .str, .dat (.int .u8)]
abbrev io : List (Nat × Oi) := [(4, .dat (.int .i64))]
noncomputable def f (s : ByteArray) (c : Int) : Option (DOut ia io) := some (Lib.indexByte s.data.toList c.toNat.toUInt8, ())
theorem ok : FnOk Tryz.prog 152 ia io (fun v => f v.1 v.2.1) := by
  refine leaf_ok ⟨Tryz.f152, Tryz.func152, by kernel_rfl, by kernel_rfl⟩ rfl (fun _ => rfl) (fun _ => rfl) (fun v u h E w vals hgl hc => ?_)
  obtain ⟨x, vs, rfl, h1, y, vs', rfl, h2, h3⟩ := hc
  have h3 : vs' = [] := h3
  subst h3
  have h1 : x = .string v.1 := V_str.1 h1
  have h2 : y = .int .u8 v.2.1 := V_int.1 h2
  subst h1 h2
  injection h with h
  subst h
  refine (Any.strings_IndexByte Tryz.l137 v.1 v.2.1 w).mono ?_
  rintro e w' ⟨rfl, rfl⟩
  exact ⟨_, rfl, .refl _, fun E => V_int.2 rfl⟩
noncomputable def en : Entry := mkEntry 152 ia io (fun v => f v.1 v.2.1)
end F_strings_IndexByte
namespace F_strings_Trim
abbrev ia : List Ai := [.dat .str, .dat .str]
abbrev io : List (Nat × Oi) := [(4, .dat .str)]
noncomputable def f (s c : ByteArray) : Option (DOut ia io) := if s.size ≤ 9223372036854775807 ∧ c.size < 4294967281 ∧ (∀ b ∈ c.data.toList, b.toNat < 128) then some (⟨(Lib.trimS s.data.toList c.data.toList).toArray⟩, ()) else none
theorem zero116 (w : World) : (zeroValue (Tryz.l160_ren.t 116)).run Tryz.prog w = .ok (.agg (Array.replicate 256 (.bool false))) w := by
  have h : Tryz.prog.info? (Tryz.l160_ren.t 116) = some ((Tryz.prog.info? (Tryz.l160_ren.t 116)).getD default) := by kernel_rfl
  have h2 : ((Tryz.prog.info? (Tryz.l160_ren.t 116)).getD default).zero = some (.agg (Array.replicate 256 (.bool false))) := by kernel_rfl
  simp only [zeroValue, Sem.run_bind, Va.run_typeInfo h, Result.andThen_ok, h2, Sem.run_pure]
theorem ok : FnOk Tryz.prog 226 ia io (fun v => f v.1 v.2.1) := by
  refine leaf_ok ⟨Tryz.f226, Tryz.func226, by kernel_rfl, by kernel_rfl⟩ rfl (fun _ => rfl) (fun _ => rfl) (fun v u h E w vals hgl hc => ?_)
  obtain ⟨x, vs, rfl, h1, y, vs', rfl, h2, h3⟩ := hc
  have h3 : vs' = [] := h3
  subst h3
  have h1 : x = .string v.1 := V_str.1 h1
  have h2 : y = .string v.2.1 := V_str.1 h2
  subst h1 h2
  unfold f at h
  split at h
  · next hs =>
    injection h with h
    subst h
    refine (Any.strings_Trim_ascii Tryz.l160 zero116 (by kernel_rfl) v.1 v.2.1 w hs.1 hs.2.1 (fun j b hj => hs.2.2 b (List.mem_of_getElem? hj))).mono ?_
    rintro e w' ⟨rfl, hb⟩
    exact ⟨_, rfl, ⟨hb.os, hb.tape, hb.output, hb.size, hb.block⟩, fun E => V_str.2 rfl⟩
  · exact absurd h (by simp)
noncomputable def en : Entry := mkEntry 226 ia io (fun v => f v.1 v.2.1)
end F_strings_Trim
namespace F_strings_Split
abbrev ia : List Ai := [.dat .str, .dat .str]
abbrev io : List (Nat × Oi) := [(4, .val (.r 0 .str))]
noncomputable def f (s sep : ByteArray) : Option (DOut ia io) := if s.size < 4294967281 ∧ 1 ≤ sep.size then some (Lib.splitB sep 0 (Lib.countB s sep) s, ()) else none
theorem ok : FnOk Tryz.prog 25 ia io (fun v => f v.1 v.2.1) := by
  refine leaf_row_ok ⟨Tryz.f25, Tryz.func25, by kernel_rfl, by kernel_rfl⟩ rfl (fun _ => rfl) (fun v u h E w vals hgl hc => ?_)
  obtain ⟨x, vs, rfl, h1, y, vs', rfl, h2, h3⟩ := hc
  have h3 : vs' = [] := h3
  subst h3
  have h1 : x = .string v.1 := V_str.1 h1
  have h2 : y = .string v.2.1 := V_str.1 h2
  subst h1 h2
  unfold f at h
  split at h
  · next hs =>
    injection h with h
    subst h
    obtain ⟨m, hm⟩ := maxLen_cell hgl
    refine (Any.strings_Split Tryz.l146 (by kernel_rfl) v.1 v.2.1 m w hs.1 hm hs.2).mono ?_
    rintro e w' ⟨rfl, rfl⟩
    have hl := Lib.splitB_all v.2.1 hs.2 0 _ v.1 rfl
    refine ⟨_, _, by rw [hl], rfl, fun S w' => ?_⟩
    have : ∀ l : List ByteArray, RdL (Rd S w' .str) l (l.map Value.string) := by
      intro l
      induction l with
      | nil => rfl
      | cons x l ih => exact ⟨[.string x], l.map Value.string, rfl, rfl, ih⟩
    exact this _
  · exact absurd h (by simp)
noncomputable def en : Entry := mkEntry 25 ia io (fun v => f v.1 v.2.1)
end F_strings_Split
end Go.Proofs.YtdlkpmohjhjmfaaGreatDoor

namespace Go.Proofs
open Go.Shelf
def Tryz.l156_ren : Go.Shelf.Ren := ⟨fun | 156 => 21 | 165 => 46 | 166 => 40 | 169 => 41 | 240 => 74 | 241 => 79 | 276 => 128 | 277 => 147 | n => n, fun | 31 => 58 | 9 => 9 | 3 => 3 | 4 => 4 | 0 => 0 | 20 => 20 | 72 => 90 | 76 => 94 | 70 => 88 | 37 => 23 | 75 => 93 | 127 => 135 | 164 => 177 | 5 => 5 | 80 => 96 | n => n, fun | n => n⟩
theorem Tryz.l156 : Go.Proofs.Lays.n156 Tryz.prog Tryz.l156_ren := {
  mixed := by kernel_rfl
  f156 := Tryz.func21.trans (congrArg some (by kernel_rfl))
  f165 := Tryz.func46.trans (congrArg some (by kernel_rfl))
  f166 := Tryz.func40.trans (congrArg some (by kernel_rfl))
  f169 := Tryz.func41.trans (congrArg some (by kernel_rfl))
  f240 := Tryz.func74.trans (congrArg some (by kernel_rfl))
  f241 := Tryz.func79.trans (congrArg some (by kernel_rfl))
  f276 := Tryz.func128.trans (congrArg some (by kernel_rfl))
  f277 := Tryz.func147.trans (congrArg some (by kernel_rfl))
  t0 := Tryz.underlying0
  a0 := Tryz.isAgg0
  z0 := Tryz.sizeOf0
  v0 := Tryz.zeroValue0
  t3 := Tryz.underlying3
  a3 := Tryz.isAgg3
  z3 := Tryz.sizeOf3
  v3 := Tryz.zeroValue3
  t4 := Tryz.underlying4
  a4 := Tryz.isAgg4
  z4 := Tryz.sizeOf4
  v4 := Tryz.zeroValue4
  t9 := Tryz.underlying9
  a9 := Tryz.isAgg9
  z9 := Tryz.sizeOf9
  v9 := Tryz.zeroValue9
  t20 := Tryz.underlying20
  a20 := Tryz.isAgg20
  z20 := Tryz.sizeOf20
  v20 := Tryz.zeroValue20
  t31 := Tryz.underlying58
  a31 := Tryz.isAgg58
  z31 := Tryz.sizeOf58
  v31 := Tryz.zeroValue58
  t37 := Tryz.underlying23
  a37 := Tryz.isAgg23
  z37 := Tryz.sizeOf23
  v37 := Tryz.zeroValue23
  t70 := Tryz.underlying88
  a70 := Tryz.isAgg88
  z70 := Tryz.sizeOf88
  v70 := Tryz.zeroValue88
  t72 := Tryz.underlying90
  a72 := Tryz.isAgg90
  z72 := Tryz.sizeOf90
  v72 := Tryz.zeroValue90
  t75 := Tryz.underlying93
  a75 := Tryz.isAgg93
  z75 := Tryz.sizeOf93
  v75 := Tryz.zeroValue93
  t76 := Tryz.underlying94
  a76 := Tryz.isAgg94
  z76 := Tryz.sizeOf94
  v76 := Tryz.zeroValue94
  t127 := Tryz.underlying135
  a127 := Tryz.isAgg135
  z127 := Tryz.sizeOf135
  v127 := Tryz.zeroValue135
  t164 := Tryz.underlying177
  a164 := Tryz.isAgg177
  z164 := Tryz.sizeOf177
  v164 := Tryz.zeroValue177 }
def Tryz.l145_ren : Go.Shelf.Ren := ⟨fun | 145 => 27 | 220 => 55 | 219 => 105 | 217 => 162 | 225 => 163 | 224 => 164 | 267 => 165 | 266 => 222 | 314 => 223 | n => n, fun | 9 => 9 | 4 => 4 | 59 => 77 | 3 => 3 | 5 => 5 | 46 => 128 | 146 => 247 | 51 => 228 | n => n, fun | 1 => 0 | n => n⟩
theorem Tryz.l145 : Go.Proofs.Lays.n145 Tryz.prog Tryz.l145_ren := {
  mixed := by kernel_rfl
  f145 := Tryz.func27.trans (congrArg some (by kernel_rfl))
  f217 := Tryz.func162.trans (congrArg some (by kernel_rfl))
  f219 := Tryz.func105.trans (congrArg some (by kernel_rfl))
  f220 := Tryz.func55.trans (congrArg some (by kernel_rfl))
  f224 := Tryz.func164.trans (congrArg some (by kernel_rfl))
  f225 := Tryz.func163.trans (congrArg some (by kernel_rfl))
  f266 := Tryz.func222.trans (congrArg some (by kernel_rfl))
  f267 := Tryz.func165.trans (congrArg some (by kernel_rfl))
  f314 := Tryz.func223.trans (congrArg some (by kernel_rfl))
  t3 := Tryz.underlying3
  a3 := Tryz.isAgg3
  z3 := Tryz.sizeOf3
  v3 := Tryz.zeroValue3
  t4 := Tryz.underlying4
  a4 := Tryz.isAgg4
  z4 := Tryz.sizeOf4
  v4 := Tryz.zeroValue4
  t5 := Tryz.underlying5
  a5 := Tryz.isAgg5
  z5 := Tryz.sizeOf5
  v5 := Tryz.zeroValue5
  t9 := Tryz.underlying9
  a9 := Tryz.isAgg9
  z9 := Tryz.sizeOf9
  v9 := Tryz.zeroValue9
  t46 := Tryz.underlying128
  a46 := Tryz.isAgg128
  z46 := Tryz.sizeOf128
  v46 := Tryz.zeroValue128
  t51 := Tryz.underlying228
  a51 := Tryz.isAgg228
  z51 := Tryz.sizeOf228
  v51 := Tryz.zeroValue228
  t59 := Tryz.underlying77
  a59 := Tryz.isAgg77
  z59 := Tryz.sizeOf77
  v59 := Tryz.zeroValue77
  t146 := Tryz.underlying247
  a146 := Tryz.isAgg247
  z146 := Tryz.sizeOf247
  v146 := Tryz.zeroValue247
  g1 := by kernel_rfl }
def Tryz.lM173_ren : Go.Shelf.Ren := ⟨fun | 173 => 44 | 246 => 78 | 283 => 143 | 284 => 144 | 285 => 145 | 286 => 146 | 129 => 198 | 317 => 197 | 318 => 199 | 319 => 200 | 320 => 201 | 337 => 233 | 338 => 234 | n => n, fun | 2 => 2 | 3 => 3 | 9 => 9 | 4 => 4 | 171 => 190 | 0 => 0 | 53 => 22 | 37 => 23 | 5 => 5 | 173 => 193 | 212 => 227 | 51 => 228 | 20 => 20 | 213 => 229 | 46 => 128 | 232 => 53 | 233 => 284 | n => n, fun | 17 => 1 | 18 => 4 | 19 => 5 | n => n⟩
theorem Tryz.lM173 : Go.Proofs.LaysM.n173 Tryz.prog Tryz.lM173_ren := {
  mixed := by kernel_rfl
  f129 := Tryz.func198.trans (congrArg some (by kernel_rfl))
  f173 := Tryz.func44.trans (congrArg some (by kernel_rfl))
  f246 := Tryz.func78.trans (congrArg some (by kernel_rfl))
  f283 := Tryz.func143.trans (congrArg some (by kernel_rfl))
  f284 := Tryz.func144.trans (congrArg some (by kernel_rfl))
  f285 := Tryz.func145.trans (congrArg some (by kernel_rfl))
  f286 := Tryz.func146.trans (congrArg some (by kernel_rfl))
  f317 := Tryz.func197.trans (congrArg some (by kernel_rfl))
  f318 := Tryz.func199.trans (congrArg some (by kernel_rfl))
  f319 := Tryz.func200.trans (congrArg some (by kernel_rfl))
  f320 := Tryz.func201.trans (congrArg some (by kernel_rfl))
  f337 := Tryz.func233.trans (congrArg some (by kernel_rfl))
  f338 := Tryz.func234.trans (congrArg some (by kernel_rfl))
  t0 := Tryz.underlying0
  a0 := Tryz.isAgg0
  z0 := Tryz.sizeOf0
  v0 := Tryz.zeroValue0
  t2 := Tryz.underlying2
  a2 := Tryz.isAgg2
  z2 := Tryz.sizeOf2
  v2 := Tryz.zeroValue2
  t3 := Tryz.underlying3
  a3 := Tryz.isAgg3
  z3 := Tryz.sizeOf3
  v3 := Tryz.zeroValue3
  t4 := Tryz.underlying4
  a4 := Tryz.isAgg4
  z4 := Tryz.sizeOf4
  v4 := Tryz.zeroValue4
  t5 := Tryz.underlying5
  a5 := Tryz.isAgg5
  z5 := Tryz.sizeOf5
  v5 := Tryz.zeroValue5
  t9 := Tryz.underlying9
  a9 := Tryz.isAgg9
  z9 := Tryz.sizeOf9
  v9 := Tryz.zeroValue9
  t20 := Tryz.underlying20
  a20 := Tryz.isAgg20
  z20 := Tryz.sizeOf20
  v20 := Tryz.zeroValue20
  t37 := Tryz.underlying23
  a37 := Tryz.isAgg23
  z37 := Tryz.sizeOf23
  v37 := Tryz.zeroValue23
  t46 := Tryz.underlying128
  a46 := Tryz.isAgg128
  z46 := Tryz.sizeOf128
  v46 := Tryz.zeroValue128
  t51 := Tryz.underlying228
  a51 := Tryz.isAgg228
  z51 := Tryz.sizeOf228
  v51 := Tryz.zeroValue228
  t53 := Tryz.underlying22
  a53 := Tryz.isAgg22
  z53 := Tryz.sizeOf22
  v53 := Tryz.zeroValue22
  t171 := Tryz.underlying190
  a171 := Tryz.isAgg190
  z171 := Tryz.sizeOf190
  v171 := Tryz.zeroValue190
  t173 := Tryz.underlying193
  a173 := Tryz.isAgg193
  z173 := Tryz.sizeOf193
  v173 := Tryz.zeroValue193
  t212 := Tryz.underlying227
  a212 := Tryz.isAgg227
  z212 := Tryz.sizeOf227
  v212 := Tryz.zeroValue227
  t213 := Tryz.underlying229
  a213 := Tryz.isAgg229
  z213 := Tryz.sizeOf229
  t232 := Tryz.underlying53
  a232 := Tryz.isAgg53
  z232 := Tryz.sizeOf53
  v232 := Tryz.zeroValue53
  t233 := Tryz.underlying284
  a233 := Tryz.isAgg284
  z233 := Tryz.sizeOf284
  v233 := Tryz.zeroValue284
  g17 := by kernel_rfl
  g18 := by kernel_rfl
  g19 := by kernel_rfl
  i0 := by kernel_rfl
  i2 := by kernel_rfl
  i3 := by kernel_rfl
  i4 := by kernel_rfl
  i5 := by kernel_rfl
  i9 := by kernel_rfl
  i20 := by kernel_rfl
  i37 := by kernel_rfl
  i46 := by kernel_rfl
  i51 := by kernel_rfl
  i53 := by kernel_rfl
  i171 := by kernel_rfl
  i173 := by kernel_rfl
  i212 := by kernel_rfl
  i232 := by kernel_rfl
  i233 := by kernel_rfl
  m17 := by kernel_rfl
  m18 := by kernel_rfl
  m19 := by kernel_rfl }
def Tryz.lM171_ren : Go.Shelf.Ren := ⟨fun | 171 => 30 | 243 => 64 | 246 => 78 | 283 => 143 | 284 => 144 | 285 => 145 | 286 => 146 | 129 => 198 | 317 => 197 | 318 => 199 | 319 => 200 | 320 => 201 | 337 => 233 | 338 => 234 | n => n, fun | 3 => 3 | 9 => 9 | 2 => 2 | 4 => 4 | 171 => 190 | 0 => 0 | 53 => 22 | 37 => 23 | 5 => 5 | 173 => 193 | 212 => 227 | 51 => 228 | 20 => 20 | 213 => 229 | 46 => 128 | 232 => 53 | 233 => 284 | n => n, fun | 17 => 1 | 18 => 4 | 19 => 5 | n => n⟩
theorem Tryz.lM171 : Go.Proofs.LaysM.n171 Tryz.prog Tryz.lM171_ren := {
  mixed := by kernel_rfl
  f129 := Tryz.func198.trans (congrArg some (by kernel_rfl))
  f171 := Tryz.func30.trans (congrArg some (by kernel_rfl))
  f243 := Tryz.func64.trans (congrArg some (by kernel_rfl))
  f246 := Tryz.func78.trans (congrArg some (by kernel_rfl))
  f283 := Tryz.func143.trans (congrArg some (by kernel_rfl))
  f284 := Tryz.func144.trans (congrArg some (by kernel_rfl))
  f285 := Tryz.func145.trans (congrArg some (by kernel_rfl))
  f286 := Tryz.func146.trans (congrArg some (by kernel_rfl))
  f317 := Tryz.func197.trans (congrArg some (by kernel_rfl))
  f318 := Tryz.func199.trans (congrArg some (by kernel_rfl))
  f319 := Tryz.func200.trans (congrArg some (by kernel_rfl))
  f320 := Tryz.func201.trans (congrArg some (by kernel_rfl))
  f337 := Tryz.func233.trans (congrArg some (by kernel_rfl))
  f338 := Tryz.func234.trans (congrArg some (by kernel_rfl))
  t0 := Tryz.underlying0
  a0 := Tryz.isAgg0
  z0 := Tryz.sizeOf0
  v0 := Tryz.zeroValue0
  t2 := Tryz.underlying2
  a2 := Tryz.isAgg2
  z2 := Tryz.sizeOf2
  v2 := Tryz.zeroValue2
  t3 := Tryz.underlying3
  a3 := Tryz.isAgg3
  z3 := Tryz.sizeOf3
  v3 := Tryz.zeroValue3
  t4 := Tryz.underlying4
  a4 := Tryz.isAgg4
  z4 := Tryz.sizeOf4
  v4 := Tryz.zeroValue4
  t5 := Tryz.underlying5
  a5 := Tryz.isAgg5
  z5 := Tryz.sizeOf5
  v5 := Tryz.zeroValue5
  t9 := Tryz.underlying9
  a9 := Tryz.isAgg9
  z9 := Tryz.sizeOf9
  v9 := Tryz.zeroValue9
  t20 := Tryz.underlying20
  a20 := Tryz.isAgg20
  z20 := Tryz.sizeOf20
  v20 := Tryz.zeroValue20
  t37 := Tryz.underlying23
  a37 := Tryz.isAgg23
  z37 := Tryz.sizeOf23
  v37 := Tryz.zeroValue23
  t46 := Tryz.underlying128
  a46 := Tryz.isAgg128
  z46 := Tryz.sizeOf128
  v46 := Tryz.zeroValue128
  t51 := Tryz.underlying228
  a51 := Tryz.isAgg228
  z51 := Tryz.sizeOf228
  v51 := Tryz.zeroValue228
  t53 := Tryz.underlying22
  a53 := Tryz.isAgg22
  z53 := Tryz.sizeOf22
  v53 := Tryz.zeroValue22
  t171 := Tryz.underlying190
  a171 := Tryz.isAgg190
  z171 := Tryz.sizeOf190
  v171 := Tryz.zeroValue190
  t173 := Tryz.underlying193
  a173 := Tryz.isAgg193
  z173 := Tryz.sizeOf193
  v173 := Tryz.zeroValue193
  t212 := Tryz.underlying227
  a212 := Tryz.isAgg227
  z212 := Tryz.sizeOf227
  v212 := Tryz.zeroValue227
  t213 := Tryz.underlying229
  a213 := Tryz.isAgg229
  z213 := Tryz.sizeOf229
  t232 := Tryz.underlying53
  a232 := Tryz.isAgg53
  z232 := Tryz.sizeOf53
  v232 := Tryz.zeroValue53
  t233 := Tryz.underlying284
  a233 := Tryz.isAgg284
  z233 := Tryz.sizeOf284
  v233 := Tryz.zeroValue284
  g17 := by kernel_rfl
  g18 := by kernel_rfl
  g19 := by kernel_rfl
  i0 := by kernel_rfl
  i2 := by kernel_rfl
  i3 := by kernel_rfl
  i4 := by kernel_rfl
  i5 := by kernel_rfl
  i9 := by kernel_rfl
  i20 := by kernel_rfl
  i37 := by kernel_rfl
  i46 := by kernel_rfl
  i51 := by kernel_rfl
  i53 := by kernel_rfl
  i171 := by kernel_rfl
  i173 := by kernel_rfl
  i212 := by kernel_rfl
  i232 := by kernel_rfl
  i233 := by kernel_rfl
  m17 := by kernel_rfl
  m18 := by kernel_rfl
  m19 := by kernel_rfl }
def Tryz.lC174_ren : Go.Shelf.Ren := ⟨fun | 174 => 158 | 247 => 219 | 245 => 220 | 287 => 239 | 279 => 240 | 280 => 241 | 281 => 242 | 282 => 243 | 321 => 255 | 322 => 256 | 316 => 257 | 171 => 30 | 205 => 258 | 243 => 64 | 246 => 78 | 283 => 143 | 284 => 144 | 285 => 145 | 286 => 146 | 129 => 198 | 317 => 197 | 318 => 199 | 319 => 200 | 320 => 201 | 337 => 233 | 338 => 234 | n => n, fun | 9 => 9 | 3 => 3 | 2 => 2 | 75 => 93 | 85 => 209 | 4 => 4 | 167 => 266 | 5 => 5 | 53 => 22 | 175 => 267 | 46 => 128 | 168 => 269 | 37 => 23 | 0 => 0 | 210 => 288 | 21 => 21 | 127 => 135 | 145 => 295 | 143 => 293 | 171 => 190 | 173 => 193 | 212 => 227 | 51 => 228 | 20 => 20 | 213 => 229 | 232 => 53 | 233 => 284 | 80 => 96 | n => n, fun | 15 => 6 | 16 => 7 | 17 => 1 | 18 => 4 | 19 => 5 | n => n⟩
theorem Tryz.lC174 : Go.Proofs.LaysC.n174 Tryz.prog Tryz.lC174_ren := {
  mixed := by kernel_rfl
  f129 := Tryz.func198.trans (congrArg some (by kernel_rfl))
  f171 := Tryz.func30.trans (congrArg some (by kernel_rfl))
  f174 := Tryz.func158.trans (congrArg some (by kernel_rfl))
  f205 := Tryz.func258.trans (congrArg some (by kernel_rfl))
  f243 := Tryz.func64.trans (congrArg some (by kernel_rfl))
  f245 := Tryz.func220.trans (congrArg some (by kernel_rfl))
  f246 := Tryz.func78.trans (congrArg some (by kernel_rfl))
  f247 := Tryz.func219.trans (congrArg some (by kernel_rfl))
  f279 := Tryz.func240.trans (congrArg some (by kernel_rfl))
  f280 := Tryz.func241.trans (congrArg some (by kernel_rfl))
  f281 := Tryz.func242.trans (congrArg some (by kernel_rfl))
  f282 := Tryz.func243.trans (congrArg some (by kernel_rfl))
  f283 := Tryz.func143.trans (congrArg some (by kernel_rfl))
  f284 := Tryz.func144.trans (congrArg some (by kernel_rfl))
  f285 := Tryz.func145.trans (congrArg some (by kernel_rfl))
  f286 := Tryz.func146.trans (congrArg some (by kernel_rfl))
  f287 := Tryz.func239.trans (congrArg some (by kernel_rfl))
  f316 := Tryz.func257.trans (congrArg some (by kernel_rfl))
  f317 := Tryz.func197.trans (congrArg some (by kernel_rfl))
  f318 := Tryz.func199.trans (congrArg some (by kernel_rfl))
  f319 := Tryz.func200.trans (congrArg some (by kernel_rfl))
  f320 := Tryz.func201.trans (congrArg some (by kernel_rfl))
  f321 := Tryz.func255.trans (congrArg some (by kernel_rfl))
  f322 := Tryz.func256.trans (congrArg some (by kernel_rfl))
  f337 := Tryz.func233.trans (congrArg some (by kernel_rfl))
  f338 := Tryz.func234.trans (congrArg some (by kernel_rfl))
  t0 := Tryz.underlying0
  a0 := Tryz.isAgg0
  z0 := Tryz.sizeOf0
  v0 := Tryz.zeroValue0
  t2 := Tryz.underlying2
  a2 := Tryz.isAgg2
  z2 := Tryz.sizeOf2
  v2 := Tryz.zeroValue2
  t3 := Tryz.underlying3
  a3 := Tryz.isAgg3
  z3 := Tryz.sizeOf3
  v3 := Tryz.zeroValue3
  t4 := Tryz.underlying4
  a4 := Tryz.isAgg4
  z4 := Tryz.sizeOf4
  v4 := Tryz.zeroValue4
  t5 := Tryz.underlying5
  a5 := Tryz.isAgg5
  z5 := Tryz.sizeOf5
  v5 := Tryz.zeroValue5
  t9 := Tryz.underlying9
  a9 := Tryz.isAgg9
  z9 := Tryz.sizeOf9
  v9 := Tryz.zeroValue9
  t20 := Tryz.underlying20
  a20 := Tryz.isAgg20
  z20 := Tryz.sizeOf20
  v20 := Tryz.zeroValue20
  t21 := Tryz.underlying21
  a21 := Tryz.isAgg21
  z21 := Tryz.sizeOf21
  v21 := Tryz.zeroValue21
  t37 := Tryz.underlying23
  a37 := Tryz.isAgg23
  z37 := Tryz.sizeOf23
  v37 := Tryz.zeroValue23
  t46 := Tryz.underlying128
  a46 := Tryz.isAgg128
  z46 := Tryz.sizeOf128
  v46 := Tryz.zeroValue128
  t51 := Tryz.underlying228
  a51 := Tryz.isAgg228
  z51 := Tryz.sizeOf228
  v51 := Tryz.zeroValue228
  t53 := Tryz.underlying22
  a53 := Tryz.isAgg22
  z53 := Tryz.sizeOf22
  v53 := Tryz.zeroValue22
  t75 := Tryz.underlying93
  a75 := Tryz.isAgg93
  z75 := Tryz.sizeOf93
  v75 := Tryz.zeroValue93
  t85 := Tryz.underlying209
  a85 := Tryz.isAgg209
  z85 := Tryz.sizeOf209
  v85 := Tryz.zeroValue209
  t127 := Tryz.underlying135
  a127 := Tryz.isAgg135
  z127 := Tryz.sizeOf135
  v127 := Tryz.zeroValue135
  t143 := Tryz.underlying293
  a143 := Tryz.isAgg293
  z143 := Tryz.sizeOf293
  v143 := Tryz.zeroValue293
  t145 := Tryz.underlying295
  a145 := Tryz.isAgg295
  z145 := Tryz.sizeOf295
  v145 := Tryz.zeroValue295
  t167 := Tryz.underlying266
  a167 := Tryz.isAgg266
  z167 := Tryz.sizeOf266
  v167 := Tryz.zeroValue266
  t168 := Tryz.underlying269
  a168 := Tryz.isAgg269
  z168 := Tryz.sizeOf269
  v168 := Tryz.zeroValue269
  t171 := Tryz.underlying190
  a171 := Tryz.isAgg190
  z171 := Tryz.sizeOf190
  v171 := Tryz.zeroValue190
  t173 := Tryz.underlying193
  a173 := Tryz.isAgg193
  z173 := Tryz.sizeOf193
  v173 := Tryz.zeroValue193
  t175 := Tryz.underlying267
  a175 := Tryz.isAgg267
  z175 := Tryz.sizeOf267
  v175 := Tryz.zeroValue267
  t210 := Tryz.underlying288
  a210 := Tryz.isAgg288
  z210 := Tryz.sizeOf288
  v210 := Tryz.zeroValue288
  t212 := Tryz.underlying227
  a212 := Tryz.isAgg227
  z212 := Tryz.sizeOf227
  v212 := Tryz.zeroValue227
  t213 := Tryz.underlying229
  a213 := Tryz.isAgg229
  z213 := Tryz.sizeOf229
  t232 := Tryz.underlying53
  a232 := Tryz.isAgg53
  z232 := Tryz.sizeOf53
  v232 := Tryz.zeroValue53
  t233 := Tryz.underlying284
  a233 := Tryz.isAgg284
  z233 := Tryz.sizeOf284
  v233 := Tryz.zeroValue284
  g15 := by kernel_rfl
  g16 := by kernel_rfl
  g17 := by kernel_rfl
  g18 := by kernel_rfl
  g19 := by kernel_rfl
  t80 := Tryz.underlying96
  a80 := Tryz.isAgg96
  z80 := Tryz.sizeOf96
  v80 := Tryz.zeroValue96
  i0 := by kernel_rfl
  i2 := by kernel_rfl
  i3 := by kernel_rfl
  i4 := by kernel_rfl
  i5 := by kernel_rfl
  i9 := by kernel_rfl
  i20 := by kernel_rfl
  i21 := by kernel_rfl
  i37 := by kernel_rfl
  i46 := by kernel_rfl
  i51 := by kernel_rfl
  i53 := by kernel_rfl
  i75 := by kernel_rfl
  i80 := by kernel_rfl
  i85 := by kernel_rfl
  i127 := by kernel_rfl
  i143 := by kernel_rfl
  i145 := by kernel_rfl
  i167 := by kernel_rfl
  i168 := by kernel_rfl
  i171 := by kernel_rfl
  i173 := by kernel_rfl
  i175 := by kernel_rfl
  i210 := by kernel_rfl
  i212 := by kernel_rfl
  i232 := by kernel_rfl
  i233 := by kernel_rfl
  m15 := by kernel_rfl
  m16 := by kernel_rfl
  m17 := by kernel_rfl
  m18 := by kernel_rfl
  m19 := by kernel_rfl
  c0 := by kernel_rfl
  c2 := by kernel_rfl
  c3 := by kernel_rfl
  c4 := by kernel_rfl
  c5 := by kernel_rfl
  c9 := by kernel_rfl
  c20 := by kernel_rfl
  c21 := by kernel_rfl
  c37 := by kernel_rfl
  c46 := by kernel_rfl
  c51 := by kernel_rfl
  c53 := by kernel_rfl
  c75 := by kernel_rfl
  c80 := by kernel_rfl
  c85 := by kernel_rfl
  c127 := by kernel_rfl
  c143 := by kernel_rfl
  c145 := by kernel_rfl
  c167 := by kernel_rfl
  c168 := by kernel_rfl
  c171 := by kernel_rfl
  c173 := by kernel_rfl
  c175 := by kernel_rfl
  c210 := by kernel_rfl
  c212 := by kernel_rfl
  c213 := by kernel_rfl
  c232 := by kernel_rfl
  c233 := by kernel_rfl }
end Go.Proofs
namespace Go.Proofs.YtdlkpmohjhjmfaaGreatDoor
open Go Go.Va Go.Proofs Go.RowKit
theorem growOf (w : World) (k : Nat) (os : Array Obj) : Grow w (Sort.grow (w.drewN k) os) := ⟨rfl, rfl, rfl, by simp [Sort.grow, World.drewN], fun b hb => by
  show (w.heap ++ os)[b]? = _
  rw [Array.getElem?_append_left hb]⟩
theorem growDrew (w : World) (k : Nat) : Grow w (w.drewN k) := ⟨rfl, rfl, rfl, Nat.le_refl _, fun _ _ => rfl⟩
theorem growBelow {w w' : World} (hb : Below w.heap.size w w') : Grow w w' := ⟨hb.os, hb.tape, hb.output, hb.size, hb.block⟩
theorem pow10_tab {E : Env} {w : World} (h : GlOk E w) : Lib.TabIs Tryz.prog w "internal/strconv.uint64pow10" .u64 Lib.pow10Tab := by
  obtain ⟨_, o, h1, t, fr, rfl⟩ := h.2 (1, fun o => ∃ t fr, o = .cells pow10Cells t fr) (by simp [Gl.ex])
  unfold Lib.TabIs World.var?
  rw [show Tryz.prog.globalNamed "internal/strconv.uint64pow10" = some 1 from by kernel_rfl, Option.bind_some, h1]
  rfl
theorem err_cell {E : Env} {w : World} (h : GlOk E w) (g : Nat) (hg : g = 6 ∨ g = 7) : ∃ ev, w.cell? ⟨g, 0, none⟩ = some ev ∧ (ev = .nilIface ∨ ∃ te pe, ev = .iface te pe) := by
  have hm : (g, ErrCell) ∈ Gl.ex := by rcases hg with rfl | rfl <;> simp [Gl.ex]
  obtain ⟨_, o, h1, ev, t, fr, rfl, h2⟩ := h.2 _ hm
  exact ⟨ev, by simp [World.cell?, h1], h2⟩
def itoaB (n : Int) : ByteArray := ⟨(Lib.itoa n).toArray⟩
def joinB (l : List ByteArray) (s : ByteArray) : List UInt8 := Lib.join (l.map (·.data.toList)) s.data.toList
namespace F_strconv_FormatInt
abbrev ia : List Ai := [.dat (.int .i64), .dat (.int .i64)]
abbrev io : List (Nat × Oi) := [(4, .dat .str)]
noncomputable def f (n b : Int) : Option (DOut ia io) := if b = 10 ∧ -9223372036854775808 ≤ n ∧ n ≤ 9223372036854775807 then some (itoaB n, ()) else none
theorem ok : FnOk Tryz.prog 44 ia io (fun v => f v.1 v.2.1) := by
  refine leaf_ok ⟨Tryz.f44, Tryz.func44, by kernel_rfl, by kernel_rfl⟩ rfl (fun _ => rfl) (fun _ => rfl) (fun v u h E w vals hgl hc => ?_)
  obtain ⟨x, vs, rfl, h1, y, vs', rfl, h2, h3⟩ := hc
  have h3 : vs' = [] := h3
  subst h3
  have h1 : x = .int .i64 v.1 := V_int.1 h1
  have h2 : y = .int .i64 v.2.1 := V_int.1 h2
  subst h1 h2
  unfold f at h
  split at h
  · next hs =>
    injection h with h
    subst h
    rw [hs.1]
    refine (Any.strconv_FormatInt_10 Tryz.lM173 v.1 hs.2.1 hs.2.2 w (pow10_tab hgl)).mono ?_
    rintro e w' ⟨rfl, k, os, rfl⟩
    exact ⟨_, rfl, growOf w k os, fun E => V_str.2 rfl⟩
  · exact absurd h (by simp)
noncomputable def en : Entry := mkEntry 44 ia io (fun v => f v.1 v.2.1)
end F_strconv_FormatInt
namespace F_strconv_Itoa
abbrev ia : List Ai := [.dat (.int .i64)]
abbrev io : List (Nat × Oi) := [(2, .dat .str)]
noncomputable def f (n : Int) : Option (DOut ia io) := if -9223372036854775808 ≤ n ∧ n ≤ 9223372036854775807 then some (itoaB n, ()) else none
theorem ok : FnOk Tryz.prog 30 ia io (fun v => f v.1) := by
  refine leaf_ok ⟨Tryz.f30, Tryz.func30, by kernel_rfl, by kernel_rfl⟩ rfl (fun _ => rfl) (fun _ => rfl) (fun v u h E w vals hgl hc => ?_)
  obtain ⟨x, vs, rfl, h1, h3⟩ := hc
  have h3 : vs = [] := h3
  subst h3
  have h1 : x = .int .i64 v.1 := V_int.1 h1
  subst h1
  unfold f at h
  split at h
  · next hs =>
    injection h with h
    subst h
    refine (Any.strconv_Itoa Tryz.lM171 v.1 hs.1 hs.2 w (pow10_tab hgl)).mono ?_
    rintro e w' ⟨rfl, k, os, rfl⟩
    exact ⟨_, rfl, growOf w k os, fun E => V_str.2 rfl⟩
  · exact absurd h (by simp)
noncomputable def en : Entry := mkEntry 30 ia io (fun v => f v.1)
end F_strconv_Itoa
theorem rdl_str {S : Nat → Prop} {w : World} : ∀ (l : List ByteArray) (cs : List Value), RdL (Rd S w .str) l cs → cs = l.map Value.string
  | [], cs, h => h
  | x :: l, cs, h => by
    obtain ⟨c1, c2, rfl, h1, h2⟩ := h
    have h1 : c1 = [.string x] := h1
    rw [h1, rdl_str l c2 h2]; rfl
theorem extra156 : Builder.Extra Tryz.prog Tryz.l156_ren := { sizeBuilder := by kernel_rfl, liesBuilder := by kernel_rfl, t5 := by kernel_rfl, a5 := fun w => by kernel_rfl, z5 := fun w => by kernel_rfl, v5 := fun w => by kernel_rfl, infoByte := by kernel_rfl, cellsByte := by kernel_rfl, sizeByte := by kernel_rfl, neB5 := by decide }
namespace F_strings_Join
abbrev ia : List Ai := [.dat (.slice .str), .dat .str]
abbrev io : List (Nat × Oi) := [(4, .dat .str)]
noncomputable def f (l : List ByteArray) (s : ByteArray) : Option (DOut ia io) := if l.length ≤ 140737488355328 ∧ (joinB l s).length ≤ 140737488355328 then some (⟨(joinB l s).toArray⟩, ()) else none
theorem ok : FnOk Tryz.prog 21 ia io (fun v => f v.1 v.2.1) := by
  refine leaf_ok ⟨Tryz.f21, Tryz.func21, by kernel_rfl, by kernel_rfl⟩ rfl (fun _ => rfl) (fun _ => rfl) (fun v u h E w vals hgl hc => ?_)
  obtain ⟨x, vs, rfl, h1, y, vs', rfl, h2, h3⟩ := hc
  have h3 : vs' = [] := h3
  subst h3
  have h1 : Rd E.S w (.slice .str) v.1 [x] := h1
  have h2 : y = .string v.2.1 := V_str.1 h2
  subst h2
  unfold f at h
  split at h
  · next hs =>
    injection h with h
    subst h
    obtain ⟨a, cap, h4, h5, h6⟩ := h1
    injection h4 with h4
    subst h4
    rcases h6 with h6 | ⟨ad, rfl, _, cells, h7, h8⟩
    · have e0 : v.1 = [] := h6
      rw [e0]
      refine (Any.strings_Join_none Tryz.l156 extra156 a cap v.2.1 w).mono ?_
      rintro e w' ⟨rfl, rfl⟩
      exact ⟨_, rfl, .refl _, fun E => V_str.2 rfl⟩
    · have e1 := rdl_str _ _ h7
      subst e1
      rcases Nat.eq_zero_or_pos v.1.length with hl | hl
      · have e0 : v.1 = [] := List.eq_nil_of_length_eq_zero hl
        rw [e0]
        refine (Any.strings_Join_none Tryz.l156 extra156 (some ad) cap v.2.1 w).mono ?_
        rintro e w' ⟨rfl, rfl⟩
        exact ⟨_, rfl, .refl _, fun E => V_str.2 rfl⟩
      · have h9 : ∀ (j : Nat) x, v.1[j]? = some x → w.cell? ⟨ad.block, ad.off + j, none⟩ = some (.string x) := by
          intro j x hj
          obtain ⟨hj2, hj3⟩ := List.getElem?_eq_some_iff.1 hj
          rw [h8.2 j (by rw [List.length_map]; exact hj2), List.getElem_map, hj3]
        have h10 : ad = ⟨ad.block, ad.off, none⟩ := by
          have := h8.1
          cases ad; dsimp only at this; rw [this]
        have h11 := cell?_lt (h9 0 v.1[0] (List.getElem?_eq_getElem hl))
        rw [h10]
        refine (Any.strings_Join Tryz.l156 extra156 ad.block ad.off cap v.1 v.2.1 w h9 h11 hs.1 h5 hs.2).mono ?_
        rintro e w' ⟨rfl, hb⟩
        exact ⟨_, rfl, growBelow hb, fun E => V_str.2 rfl⟩
  · exact absurd h (by simp)
noncomputable def en : Entry := mkEntry 21 ia io (fun v => f v.1 v.2.1)
end F_strings_Join
theorem V_tup3 {E : Env} {w : World} {a b : ByteArray} {c : Bool} : V E w (.tup (.cons (.data .str a) (.cons (.data .str b) (.cons (.data .bool c) .done)))) (.tuple #[.string a, .string b, .bool c]) := by
  rw [V_one rfl]
  refine ⟨_, rfl, _, _, rfl, ?_, _, _, rfl, ?_, _, _, rfl, ?_, rfl⟩
  · rw [if_neg (by simp [AV.isAgg, Ty.agg])]; rfl
  · rw [if_neg (by simp [AV.isAgg, Ty.agg])]; rfl
  · rw [if_neg (by simp [AV.isAgg, Ty.agg])]; rfl
namespace F_strings_Cut
abbrev ia : List Ai := [.dat .str, .dat .str]
abbrev io : List (Nat × Oi) := [(4, .dat .str), (5, .dat .str), (6, .dat .bool)]
noncomputable def f (s c : ByteArray) : Option (DOut ia io) := if s.size < 4294967281 then some (⟨(Lib.cut s.data.toList c.data.toList).1.toArray⟩, ⟨(Lib.cut s.data.toList c.data.toList).2.1.toArray⟩, (Lib.cut s.data.toList c.data.toList).2.2, ()) else none
theorem ok : FnOk Tryz.prog 27 ia io (fun v => f v.1 v.2.1) := by
  refine leaf_ok ⟨Tryz.f27, Tryz.func27, by kernel_rfl, by kernel_rfl⟩ rfl (fun _ => rfl) (fun _ => rfl) (fun v u h E w vals hgl hc => ?_)
  obtain ⟨x, vs, rfl, h1, y, vs', rfl, h2, h3⟩ := hc
  have h3 : vs' = [] := h3
  subst h3
  have h1 : x = .string v.1 := V_str.1 h1
  have h2 : y = .string v.2.1 := V_str.1 h2
  subst h1 h2
  unfold f at h
  split at h
  · next hs =>
    injection h with h
    subst h
    obtain ⟨m, hm⟩ := maxLen_cell hgl
    refine (Any.strings_Cut Tryz.l145 v.1 v.2.1 m w hs hm).mono ?_
    rintro e w' ⟨rfl, n, rfl⟩
    refine ⟨_, rfl, growDrew w n, fun E => ?_⟩
    exact V_tup3
  · exact absurd h (by simp)
noncomputable def en : Entry := mkEntry 27 ia io (fun v => f v.1 v.2.1)
end F_strings_Cut
end Go.Proofs.YtdlkpmohjhjmfaaGreatDoor

namespace Go.Proofs.YtdlkpmohjhjmfaaGreatDoor
open Go Go.Va Go.Proofs Go.RowKit
theorem run_mk (w : World) : (Instr.makeMap 103 none).run Tryz.prog w = .ok (.map (some w.heap.size)) (w.alloc (.map #[] 0)) := by
  rfl
theorem run_ins (w : World) (es : Array MapEntry) (ck : Nat) (s : ByteArray) (v : Int) (hf : Instr.findNow .string (.string s) es.toList 0 = some none) :
    (Instr.mapUpdate 103 (.map (some w.heap.size)) (.string s) (.int .i64 v)).run Tryz.prog (w.alloc (.map es ck)) = .ok () (w.alloc (.map (es.push { key := .string s, val := .int .i64 v, born := ck }) (ck + 1))) := by
  have h1 : (w.alloc (.map es ck)).heap[w.heap.size]? = some (.map es ck) := heap_alloc_new w _
  have h2 : (getObj w.heap.size).run Tryz.prog (w.alloc (.map es ck)) = .ok (.map es ck) (w.alloc (.map es ck)) := by
    unfold getObj; simp only [Sem.run, h1]
  have h3 : ∀ b w, (Instr.checkKey b 10000 9 (.string s)).run Tryz.prog w = .ok () w := by
    intro b w
    unfold Instr.checkKey
    simp only [Sem.run_bind, Va.run_underlying Tryz.underlying9, Result.andThen_ok, Sem.run_pure]
  have h4 : ∀ w, (Instr.findKey 9 (.string s) es.toList).run Tryz.prog w = .ok none w := by
    intro w
    unfold Instr.findKey
    simp only [Sem.run_bind, Va.run_underlying Tryz.underlying9, Result.andThen_ok, hf, Sem.run_pure]
  have h5 : ∀ o, (setObj w.heap.size o).run Tryz.prog (w.alloc (.map es ck)) = .ok () (w.alloc o) := by
    intro o
    unfold setObj
    simp only [Sem.run, h1]
    congr 1
    show ({ w with heap := (w.heap.push (.map es ck)).setIfInBounds w.heap.size o } : World) = { w with heap := w.heap.push o }
    congr 1
    apply Array.toList_inj.1
    simp
  unfold Instr.mapUpdate
  simp only [Sem.run_bind, Va.run_underlying Tryz.underlying103, Result.andThen_ok, h2, h3, h4, h5]
def wordsE : Array MapEntry := #[{ key := .string ⟨#[111, 112, 101, 110]⟩, val := .int .i64 1, born := 0 }, { key := .string ⟨#[115, 119, 101, 101, 112]⟩, val := .int .i64 4, born := 1 }, { key := .string ⟨#[99, 111, 108, 108, 101, 99, 116]⟩, val := .int .i64 5, born := 2 }, { key := .string ⟨#[99, 104, 101, 99, 107]⟩, val := .int .i64 6, born := 3 }]
def wordsL : List (ByteArray × Int) := [(⟨#[111, 112, 101, 110]⟩, 1), (⟨#[115, 119, 101, 101, 112]⟩, 4), (⟨#[99, 111, 108, 108, 101, 99, 116]⟩, 5), (⟨#[99, 104, 101, 99, 107]⟩, 6)]
set_option maxRecDepth 100000 in
theorem words_walk (w : World) : Calls Tryz.prog 49 #[] w fun e w' => e = .returned (.map (some w.heap.size)) ∧ w' = w.alloc (.map wordsE 4) := by
  have mixed := mixed
  have hm := run_mk
  have i1 := run_ins w #[] 0 ⟨#[111, 112, 101, 110]⟩ 1 rfl
  have i2 := run_ins w #[{ key := .string ⟨#[111, 112, 101, 110]⟩, val := .int .i64 1, born := 0 }] 1 ⟨#[115, 119, 101, 101, 112]⟩ 4 (by kernel_rfl)
  have i3 := run_ins w #[{ key := .string ⟨#[111, 112, 101, 110]⟩, val := .int .i64 1, born := 0 }, { key := .string ⟨#[115, 119, 101, 101, 112]⟩, val := .int .i64 4, born := 1 }] 2 ⟨#[99, 111, 108, 108, 101, 99, 116]⟩ 5 (by kernel_rfl)
  have i4 := run_ins w #[{ key := .string ⟨#[111, 112, 101, 110]⟩, val := .int .i64 1, born := 0 }, { key := .string ⟨#[115, 119, 101, 101, 112]⟩, val := .int .i64 4, born := 1 }, { key := .string ⟨#[99, 111, 108, 108, 101, 99, 116]⟩, val := .int .i64 5, born := 2 }] 3 ⟨#[99, 104, 101, 99, 107]⟩ 6 (by kernel_rfl)
  go_enter Tryz.func49, Tryz.ntmps49
  go_wp2
  go_ret
  exact ⟨rfl, rfl⟩
namespace F_script_words
abbrev ia : List Ai := []
abbrev io : List (Nat × Oi) := [(0, .dat .smap)]
noncomputable def f : Option (DOut ia io) := some (wordsL, ())
theorem ok : FnOk Tryz.prog 49 ia io (fun _ => f) := by
  refine leaf_map_ok ⟨Tryz.f49, Tryz.func49, by kernel_rfl, by kernel_rfl⟩ (fun _ => rfl) (fun _ => rfl) rfl (fun v u h E w vals hgl hc => ?_)
  have hc : vals = [] := hc
  subst hc
  injection h with h
  subst h
  refine (words_walk w).mono ?_
  rintro e w' ⟨rfl, rfl⟩
  refine ⟨_, w.heap.size, rfl, Grow.alloc w _, Nat.le_refl _, by show w.heap.size < (w.heap.push _).size; simp, fun S hS => ?_⟩
  simp only [Rd]
  exact .inr ⟨w.heap.size, wordsE, 4, rfl, hS, heap_alloc_new w _, rfl⟩
noncomputable def en : Entry := mkEntry 49 ia io (fun _ => f)
end F_script_words
def wordB (k : Int) : ByteArray := if k = 1 then ⟨#[111, 112, 101, 110]⟩ else if k = 4 then ⟨#[115, 119, 101, 101, 112]⟩ else if k = 5 then ⟨#[99, 111, 108, 108, 101, 99, 116]⟩ else if k = 6 then ⟨#[99, 104, 101, 99, 107]⟩ else ⟨#[]⟩
theorem word_hit {k : Int} : ∀ x ∈ wordsE.toList, x.val = .int .i64 k → x.key = .string (wordB k) := by
  intro x hx hv
  simp only [wordsE, List.mem_cons, List.not_mem_nil, or_false] at hx
  rcases hx with rfl | rfl | rfl | rfl <;> (injection hv with _ hv; subst hv; rfl)
theorem word_miss {k : Int} (h : ∀ x ∈ wordsE.toList, x.val ≠ .int .i64 k) : wordB k = ⟨#[]⟩ := by
  have h1 := h _ (.head _)
  have h2 := h _ (.tail _ (.head _))
  have h3 := h _ (.tail _ (.tail _ (.head _)))
  have h4 := h _ (.tail _ (.tail _ (.tail _ (.head _))))
  unfold wordB
  rw [if_neg (fun e => h1 (by rw [e])), if_neg (fun e => h2 (by rw [e])), if_neg (fun e => h3 (by rw [e])), if_neg (fun e => h4 (by rw [e]))]
theorem words_born : (wordsE.toList.map (·.born)).Nodup := by decide
theorem choose_run (P : Program) (q : Question) (w : World) : ∃ j k, (choose q).run P w = .ok j (w.drewN k) := by
  unfold choose
  simp only [Sem.run]
  split
  · exact ⟨_, 0, rfl⟩
  · exact ⟨_, 1, rfl⟩
theorem next_tape {P : Program} {w w' : World} {r m since last : Nat} {seen : Array Nat} {es : Array MapEntry} {ck : Nat} {ty : TypeId} {a : Value} (h1 : w.heap[r]? = some (.mapIter (some m) since seen last)) (h2 : w.heap[m]? = some (.map es ck))
    (h : (Instr.next (.pointer (some ⟨r, 0, none⟩)) false ty).run P w = .ok a w') : w'.tape = w.tape := by
  have g1 : (getObj r).run P w = .ok (.mapIter (some m) since seen last) w := by unfold getObj; simp only [Sem.run, h1]
  have g2 : (getObj m).run P w = .ok (.map es ck) w := by unfold getObj; simp only [Sem.run, h2]
  have g3 : ∀ (k : Nat) (o : Obj), (setObj r o).run P (w.drewN k) = .ok () { w.drewN k with heap := w.heap.setIfInBounds r o } := by
    intro k o
    have : (w.drewN k).heap[r]? = some (.mapIter (some m) since seen last) := h1
    unfold setObj; simp only [Sem.run, this]; rfl
  unfold Instr.next at h
  simp only [Sem.run_bind, g1, g2, Result.andThen_ok] at h
  split at h
  · simp only [Sem.run_bind] at h
    unfold unsupported at h
    simp only [Sem.run] at h
    exact absurd h (by simp [Result.andThen])
  · rw [Sem.run_bind] at h
    generalize Question.mapNext _ = q at h
    obtain ⟨j, k, hc⟩ := choose_run P q w
    rw [hc, Result.andThen_ok] at h
    split at h
    · rw [Sem.run_bind, g3, Result.andThen_ok, Sem.run_pure] at h
      injection h with _ h
      rw [← h]; rfl
    · rw [Sem.run_pure] at h
      injection h with _ h
      rw [← h]; rfl
    · unfold stuck at h
      simp only [Sem.run] at h
      exact absurd h (by simp)
set_option maxRecDepth 1000000 in
theorem word_walk (k : Int) (w : World) : Calls Tryz.prog 45 #[.int .i64 k] w fun e w' => e = .returned (.string (wordB k)) ∧ Grow w w' := by
  have mixed := mixed
  have hsz0 : (w.alloc (.map wordsE 4)).heap.size = w.heap.size + 1 := by show (w.heap.push _).size = _; simp
  have hgr : ∀ (w1 : World) (o : Obj), w1.Alike (w.alloc (.map wordsE 4)) → w1.tape = w.tape → Grow w (w1.alloc o) := by
    intro w1 o hal ht
    have g1 : Grow (w.alloc (.map wordsE 4)) w1 := ⟨hal.2.1, ht, hal.2.2, by rw [hal.1]; exact Nat.le_refl _, fun b _ => by rw [hal.1]⟩
    exact ((Grow.alloc w _).trans g1).trans (Grow.alloc w1 o)
  have hb0 : (w.alloc (.map wordsE 4)).heap[w.heap.size]? = some (.map wordsE 4) := heap_alloc_new w _
  have hold : ∀ x ∈ wordsE.toList, x.born < 4 := by decide
  have hrg := run_range_map (P := Tryz.prog) (w.alloc (.map wordsE 4)) 103 9 3 w.heap.size wordsE 4 Tryz.underlying103 hb0
  go_enter Tryz.func45, Tryz.ntmps45
  go_wp2_with (refine (words_walk w).mono ?_; rintro e w' ⟨rfl, rfl⟩)
  go_loopw [] (fun w' => ∃ (w1 : World) (seen : Array Nat), w1.Alike (w.alloc (.map wordsE 4)) ∧ w1.tape = w.tape ∧ w' = w1.alloc (.mapIter (some w.heap.size) 4 seen 4) ∧ ∀ x ∈ wordsE.toList, seen.contains x.born = true → x.val ≠ .int .i64 k) (fun w' => (leftOf wordsE (w'.iterSeen (w.heap.size + 1))).size)
  case atStart => exact ⟨w.alloc (.map wordsE 4), #[], ⟨rfl, rfl, rfl⟩, rfl, rfl, fun x _ h => by simp at h⟩
  case round =>
    obtain ⟨w1, seen, hal, ht, rfl, hno⟩ := hrel
    have hsz : w1.heap.size = (w.alloc (.map wordsE 4)).heap.size := by rw [hal.1]
    have hb1 : w1.heap[w.heap.size]? = some (.map wordsE 4) := by rw [hal.1]; exact hb0
    have law := run_next_map (P := Tryz.prog) w1 0 w.heap.size 4 4 seen wordsE 4 hb1 hold (Nat.le_refl _)
    have tp : ∀ a w2, (Instr.next (.pointer (some ⟨w1.heap.size, 0, none⟩)) false 0).run Tryz.prog (w1.alloc (.mapIter (some w.heap.size) 4 seen 4)) = .ok a w2 → w2.tape = w1.tape := fun a w2 h => next_tape (w := w1.alloc (.mapIter (some w.heap.size) 4 seen 4)) (heap_alloc_new w1 _) ((heap_alloc_old w1 _ (by rw [hsz, hsz0]; omega)).trans hb1) h
    rw [hsz, hsz0] at law tp
    rcases law with ⟨h0, hrun⟩ | ⟨e, he, w2, hal2, hrun⟩
    · have hnx : ∀ ty, (Instr.next (.pointer (some ⟨w.heap.size + 1, 0, none⟩)) false ty).run Tryz.prog (w1.alloc (.mapIter (some w.heap.size) 4 seen 4)) = _ := fun _ => hrun
      go_wp2
      go_ret
      rw [word_miss (fun x hx => hno x hx (all_seen wordsE seen h0 x hx))]
      exact ⟨rfl, hgr w1 _ hal ht⟩
    · have hal3 : w2.Alike (w.alloc (.map wordsE 4)) := ⟨hal2.1.trans hal.1, hal2.2.1.trans hal.2.1, hal2.2.2.trans hal.2.2⟩
      have ht3 : w2.tape = w.tape := (tp _ _ hrun).trans ht
      obtain ⟨v, hval, s, hkey⟩ : ∃ v, e.val = .int .i64 v ∧ ∃ s, e.key = .string s := by
        have := (mem_left he).1
        simp only [wordsE, List.mem_cons, List.not_mem_nil, or_false] at this
        rcases this with rfl | rfl | rfl | rfl <;> exact ⟨_, rfl, _, rfl⟩
      rw [hval, hkey] at hrun
      have hnx : ∀ ty, (Instr.next (.pointer (some ⟨w.heap.size + 1, 0, none⟩)) false ty).run Tryz.prog (w1.alloc (.mapIter (some w.heap.size) 4 seen 4)) = _ := fun _ => hrun
      have hsz2 : w2.heap.size = (w.alloc (.map wordsE 4)).heap.size := by rw [hal2.1, hal.1]
      have hb2 : w2.heap[w.heap.size]? = some (.map wordsE 4) := by rw [hal2.1]; exact hb1
      have hen := run_entry_map (P := Tryz.prog) w2 w.heap.size 4 seen wordsE 4 e hb2 (mem_left he).1 words_born
      rw [hsz2, hsz0, hval, hkey] at hen
      have hw := word_hit (k := v) e (mem_left he).1 hval
      rw [hkey] at hw
      injection hw with hw
      go_wp2
      · rename_i heq
        have heq : v = k := by simpa using heq
        go_ret
        rw [← heq, ← hw]
        exact ⟨rfl, hgr w2 _ hal3 ht3⟩
      · rename_i hne
        have hne : v ≠ k := by simpa using hne
        go_roundw
        case rel =>
          refine ⟨w2, seen.push e.born, hal3, ht3, rfl, fun x hx hc => ?_⟩
          rw [contains_push] at hc
          rcases Bool.or_eq_true _ _ ▸ hc with h1 | h1
          · exact hno x hx h1
          · have : x = e := born_inj words_born hx (mem_left he).1 (beq_iff_eq.1 h1)
            subst this
            rw [hval]
            exact fun h => hne (by injection h)
        case measure =>
          rw [← hsz0, ← hsz2, World.iterSeen_alloc, hsz2, ← hsz, World.iterSeen_alloc]
          exact left_shrinks wordsE seen e he
namespace F_script_word
abbrev ia : List Ai := [.dat (.int .i64)]
abbrev io : List (Nat × Oi) := [(2, .dat .str)]
noncomputable def f (k : Int) : Option (DOut ia io) := some (wordB k, ())
theorem ok : FnOk Tryz.prog 45 ia io (fun v => f v.1) := by
  refine leaf_ok ⟨Tryz.f45, Tryz.func45, by kernel_rfl, by kernel_rfl⟩ rfl (fun _ => rfl) (fun _ => rfl) (fun v u h E w vals hgl hc => ?_)
  obtain ⟨x, vs, rfl, h1, h3⟩ := hc
  have h3 : vs = [] := h3
  subst h3
  have h1 : x = .int .i64 v.1 := V_int.1 h1
  subst h1
  injection h with h
  subst h
  refine (word_walk v.1 w).mono ?_
  rintro e w' ⟨rfl, hg⟩
  exact ⟨_, rfl, hg, fun E => V_str.2 rfl⟩
noncomputable def en : Entry := mkEntry 45 ia io (fun v => f v.1)
end F_script_word
noncomputable def numB (s : ByteArray) : Int × Bool := match Lib.parseIntB 64 s.data.toList with
  | .ok v => (v, eqS (itoaB v) s)
  | .range => (Lib.intSat 64 s.data.toList, false)
  | _ => (0, false)
theorem tab_at {w : World} {t : TypeId} {fr : Nat × Nat} (h : w.heap[1]? = some (.cells pow10Cells t fr)) : Lib.TabIs Tryz.prog w "internal/strconv.uint64pow10" .u64 Lib.pow10Tab := by
  unfold Lib.TabIs World.var?
  rw [show Tryz.prog.globalNamed "internal/strconv.uint64pow10" = some 1 from by kernel_rfl, Option.bind_some, h]
  rfl
set_option maxRecDepth 100000 in
theorem number_ok (s : ByteArray) (hs : s.size ≤ 281474976710656) (v : Int) (h : Lib.parseIntB 64 s.data.toList = .ok v) (hv : -9223372036854775808 ≤ v ∧ v ≤ 9223372036854775807) (w : World) (t : TypeId) (fr : Nat × Nat) (ht : w.heap[1]? = some (.cells pow10Cells t fr)) :
    Calls Tryz.prog 98 #[.string s] w fun e w' => e = .returned (.tuple #[.int .i64 v, .bool (eqS (itoaB v) s)]) ∧ Grow w w' := by
  have mixed := mixed
  have hp : Calls Tryz.prog 158 #[.string s, .int .i64 10, .int .i64 64] w fun e w' => e = .returned (.tuple #[.int .i64 v, .nilIface]) ∧ Grow w w' := by
    have hq := Any.strconv_ParseInt_10_at64_ok Tryz.lC174 s (by omega) v h w
    refine Calls.mono hq fun e w' hh => ?_
    obtain ⟨h1, h2⟩ := hh
    refine ⟨h1, ?_⟩
    rcases h2 with h2 | ⟨t, h2⟩
    · rw [h2]; exact .refl _
    · rw [h2]; exact growBelow (Lib.bytesWorld_below w _ _)
  have hf : ∀ w1, Grow w w1 → Calls Tryz.prog 44 #[.int .i64 v, .int .i64 10] w1 fun e w' => e = .returned (.string (itoaB v)) ∧ Grow w w' := by
    intro w1 hg
    have hl : 1 < w.heap.size := by
      rcases Nat.lt_or_ge 1 w.heap.size with hl | hl
      · exact hl
      · rw [Array.getElem?_eq_none hl] at ht; exact absurd ht (by simp)
    refine (Any.strconv_FormatInt_10 Tryz.lM173 v hv.1 hv.2 w1 (tab_at ((hg.block 1 hl).trans ht))).mono ?_
    rintro e w' ⟨rfl, k, os, rfl⟩
    exact ⟨rfl, hg.trans (growOf w1 k os)⟩
  go_enter Tryz.func98, Tryz.ntmps98
  go_wp2_with (first | (refine hp.mono ?_; rintro e w1 ⟨rfl, hg⟩) | (refine (hf _ hg).mono ?_; rintro e w2 ⟨rfl, hg2⟩))
  go_ret2
  exact ⟨rfl, hg2⟩
set_option maxRecDepth 100000 in
theorem number_err (s : ByteArray) (n : Int) (w : World) (hp : Calls Tryz.prog 158 #[.string s, .int .i64 10, .int .i64 64] w fun e w' => ∃ N, e = .returned (.tuple #[.int .i64 n, .iface (Tryz.lC174_ren.t 168) (.pointer (some ⟨N, 0, none⟩))]) ∧ Grow w w') :
    Calls Tryz.prog 98 #[.string s] w fun e w' => e = .returned (.tuple #[.int .i64 n, .bool false]) ∧ Grow w w' := by
  have mixed := mixed
  go_enter Tryz.func98, Tryz.ntmps98
  go_wp2_with (refine hp.mono ?_; rintro e w1 ⟨N, rfl, hg⟩)
  go_ret2
  exact ⟨rfl, hg⟩
namespace F_script_number
abbrev ia : List Ai := [.dat .str]
abbrev io : List (Nat × Oi) := [(2, .dat (.int .i64)), (3, .dat .bool)]
noncomputable def f (s : ByteArray) : Option (DOut ia io) := if s.size ≤ 281474976710656 then some ((numB s).1, (numB s).2, ()) else none
theorem V_tup2 {E : Env} {w : World} {a : Int} {c : Bool} : V E w (.tup (.cons (.data (.int .i64) a) (.cons (.data .bool c) .done))) (.tuple #[.int .i64 a, .bool c]) := by
  rw [V_one rfl]
  refine ⟨_, rfl, _, _, rfl, ?_, _, _, rfl, ?_, rfl⟩
  · rw [if_neg (by simp [AV.isAgg, Ty.agg])]; rfl
  · rw [if_neg (by simp [AV.isAgg, Ty.agg])]; rfl
theorem ok : FnOk Tryz.prog 98 ia io (fun v => f v.1) := by
  refine leaf_ok ⟨Tryz.f98, Tryz.func98, by kernel_rfl, by kernel_rfl⟩ rfl (fun _ => rfl) (fun _ => rfl) (fun v u h E w vals hgl hc => ?_)
  obtain ⟨x, vs, rfl, h1, h3⟩ := hc
  have h3 : vs = [] := h3
  subst h3
  have h1 : x = .string v.1 := V_str.1 h1
  subst h1
  unfold f at h
  split at h
  · next hs =>
    injection h with h
    subst h
    have key : Calls Tryz.prog 98 #[.string v.1] w fun e w' => e = .returned (.tuple #[.int .i64 (numB v.1).1, .bool (numB v.1).2]) ∧ Grow w w' := by
      unfold numB
      rcases hp : Lib.parseIntB 64 v.1.data.toList with n | _ | _
      · dsimp only
        have hb := Lib.parseIntB_bounds hp
        obtain ⟨_, o, h1, t, fr, rfl⟩ := hgl.2 (1, fun o => ∃ t fr, o = .cells pow10Cells t fr) (by simp [Gl.ex])
        exact number_ok v.1 hs n hp ⟨by omega, by omega⟩ w t fr h1
      · dsimp only
        obtain ⟨ev, h1, h2⟩ := err_cell hgl 6 (.inl rfl)
        refine number_err v.1 0 w (Calls.mono (Any.strconv_ParseInt_10_at64_syntax Tryz.lC174 v.1 hs hp ev w h1 h2) fun e w' hh => ?_)
        obtain ⟨N, h1, _, _, hb⟩ := hh
        exact ⟨N, h1, growBelow hb⟩
      · dsimp only
        obtain ⟨ev, h1, h2⟩ := err_cell hgl 7 (.inr rfl)
        refine number_err v.1 _ w (Calls.mono (Any.strconv_ParseInt_10_at64_range Tryz.lC174 v.1 hs hp ev w h1 h2) fun e w' hh => ?_)
        obtain ⟨N, h1, _, _, hb⟩ := hh
        exact ⟨N, h1, growBelow hb⟩
    refine key.mono ?_
    rintro e w' ⟨rfl, hg⟩
    exact ⟨_, rfl, hg, fun E => V_tup2⟩
  · exact absurd h (by simp)
noncomputable def en : Entry := mkEntry 98 ia io (fun v => f v.1)
end F_script_number
end Go.Proofs.YtdlkpmohjhjmfaaGreatDoor

namespace Go.Proofs.YtdlkpmohjhjmfaaGreatDoor
open Go Go.Va Go.Proofs
namespace F_label_Clean
abbrev ia : List Ai := [.dat .str]
abbrev io : List (Nat × Oi) := [(2, .dat .bool)]
abbrev R : Type := DOut ia io
noncomputable def X (n : Nat) : Ctx := ⟨⟨tab, [F_unicode_utf8_ValidString.en], 0, []⟩, 21, bnOf 0 ia⟩
abbrev g1 : List Si := [.dat 0 .str, .val 6 (.r 200600 (.int .u8)), .dat 7 (.int .i64), .dat 8 (.int .i64)]
abbrev g2 : List Si := [.dat 0 .str]
noncomputable def T : CT := (.s .o (.s (.s .o (.b (.l g1 .o))) (.r g2 .o)))
noncomputable def J1 (n : Nat) (m : Nat) : ByteArray × (List (Int)) × Int × Int × Unit → Option R := jL (X n) n T (bodyOf Tryz.f129) (endK ia io) g1 [1, 0, 1, 0] [] m
noncomputable def J2 (n : Nat) : ByteArray × Unit → Option R := jR (X n) n T (bodyOf Tryz.f129) (endK ia io) g2 [1, 1] []
noncomputable def f (n : Nat) (s_ : ByteArray) : Option R := fRun (X n) n T Tryz.f129 ia io (s_, ())
theorem e0 (n : Nat) (s_ : ByteArray) : f n s_ =
  J1 n n (s_, (ofBytes s_), (((ofBytes s_).length : Nat) : Int), 0, ()) := (hideF_eq _).trans (by kernel_rfl)
theorem e1 (n m : Nat) (s_ : ByteArray) (t6 : List (Int)) (t7 : Int) (t8 : Int) : J1 n (m + 1) (s_, t6, t7, t8, ()) =
  bIf ((hide (decide (t8 < t7)))) (
    gIf (0 ≤ t8 ∧ t8 < ((t6.length : Nat) : Int)) (
      bIf ((hide (decide ((List.getD t6 (0 + t8.toNat) 0) < (32 : Int))))) (
        some (false, ())
        ) (
        bIf ((hide ((List.getD t6 (0 + t8.toNat) 0) == (127 : Int)))) (
          some (false, ())
          ) (
          J1 n m (s_, t6, t7, (IntKind.i64.wrap (t8 + (1 : Int))), ())
          )
        )
      )
    ) (
    J2 n (s_, ())
    ) := (hideF_eq _).trans (by kernel_rfl)
theorem e2 (n : Nat) (s_ : ByteArray) : J2 n (s_, ()) =
  bnd (F_unicode_utf8_ValidString.f s_) fun u1 =>
  some (u1.1, ()) := (hideF_eq _).trans (by kernel_rfl)
theorem phi (n : Nat) : ∀ e ∈ (X n).c.Φ, EntryOk Tryz.prog e := allE_cons (mkEntry_ok (F_unicode_utf8_ValidString.ok)) (allE_nil)
theorem ok (n : Nat) : FnOk Tryz.prog 129 ia io (fRun (X n) n T Tryz.f129 ia io) := tree_ok mixed tabIs (phi n) Tryz.func129 (by kernel_rfl) rfl
noncomputable def en (n : Nat) : Entry := mkEntry 129 ia io (fRun (X n) n T Tryz.f129 ia io)
end F_label_Clean
end Go.Proofs.YtdlkpmohjhjmfaaGreatDoor

namespace Go.Proofs.YtdlkpmohjhjmfaaGreatDoor
open Go Go.Va Go.Proofs
namespace F_ref06_Clean
abbrev ia : List Ai := [.dat .str]
abbrev io : List (Nat × Oi) := [(2, .dat .bool)]
abbrev R : Type := DOut ia io
noncomputable def X (n : Nat) : Ctx := ⟨⟨tab, [], 0, []⟩, 109, bnOf 0 ia⟩
abbrev g1 : List Si := [.dat 0 .str, .dat 3 (.int .i64)]
abbrev g2 : List Si := [.dat 0 .str, .dat 3 (.int .i64), .dat 4 (.int .i64), .dat 21 .bool]
abbrev g3 : List Si := [.dat 0 .str, .dat 3 (.int .i64), .dat 4 (.int .i64), .dat 30 .bool]
abbrev g4 : List Si := [.dat 0 .str, .dat 3 (.int .i64), .dat 4 (.int .i64), .dat 39 .bool]
abbrev g5 : List Si := [.dat 0 .str, .dat 3 (.int .i64), .dat 4 (.int .i64), .dat 5 (.int .i64), .dat 6 (.int .i64), .dat 7 (.int .i64)]
abbrev g6 : List Si := [.dat 0 .str, .dat 3 (.int .i64), .dat 5 (.int .i64), .dat 6 (.int .i64), .dat 7 (.int .i64)]
abbrev g7 : List Si := [.dat 0 .str, .dat 3 (.int .i64), .dat 5 (.int .i64), .dat 6 (.int .i64), .dat 7 (.int .i64), .dat 8 (.int .i64)]
abbrev g8 : List Si := [.dat 0 .str, .dat 3 (.int .i64), .dat 5 (.int .i64), .dat 6 (.int .i64), .dat 7 (.int .i64), .dat 8 (.int .i64)]
abbrev g9 : List Si := [.dat 0 .str, .dat 3 (.int .i64), .dat 5 (.int .i64), .dat 6 (.int .i64), .dat 7 (.int .i64), .dat 8 (.int .i64)]
abbrev g10 : List Si := [.dat 0 .str, .dat 3 (.int .i64), .dat 5 (.int .i64), .dat 6 (.int .i64), .dat 7 (.int .i64)]
abbrev g11 : List Si := [.dat 0 .str, .dat 3 (.int .i64), .dat 5 (.int .i64)]
abbrev g12 : List Si := []
noncomputable def T : CT := (.s .o (.s (.s .o (.b (.l g1 (.s .o (.b (.s .o (.s .o (.s (.b (.s .o (.c .o (.s .o (.r g2 (.c .o (.s .o (.r g3 (.c .o (.s .o (.r g4 .o))))))))))) (.r g5 (.s .o (.r g6 (.s (.s .o (.b (.l g7 (.s .o (.s (.b (.s .o (.r g8 .o))) (.r g9 .o)))))) (.r g10 (.s .o (.r g11 .o))))))))))))))) (.r g12 .o)))
noncomputable def J1 (n : Nat) (m : Nat) : ByteArray × Int × Unit → Option R := jL (X n) n T (bodyOf Tryz.f80) (endK ia io) g1 [1, 0, 1, 0] [] m
noncomputable def J2 (n m1 : Nat) : ByteArray × Int × Int × Bool × Unit → Option R := jR (X n) n T (bodyOf Tryz.f80) (endK ia io) g2 [1, 0, 1, 0, 0, 1, 0, 1, 1, 0, 0, 1, 1, 1] [m1]
noncomputable def J3 (n m1 : Nat) : ByteArray × Int × Int × Bool × Unit → Option R := jR (X n) n T (bodyOf Tryz.f80) (endK ia io) g3 [1, 0, 1, 0, 0, 1, 0, 1, 1, 0, 0, 1, 1, 1, 1, 1] [m1]
noncomputable def J4 (n m1 : Nat) : ByteArray × Int × Int × Bool × Unit → Option R := jR (X n) n T (bodyOf Tryz.f80) (endK ia io) g4 [1, 0, 1, 0, 0, 1, 0, 1, 1, 0, 0, 1, 1, 1, 1, 1, 1, 1] [m1]
noncomputable def J5 (n m1 : Nat) : ByteArray × Int × Int × Int × Int × Int × Unit → Option R := jR (X n) n T (bodyOf Tryz.f80) (endK ia io) g5 [1, 0, 1, 0, 0, 1, 0, 1, 1, 1] [m1]
noncomputable def J6 (n m1 : Nat) : ByteArray × Int × Int × Int × Int × Unit → Option R := jR (X n) n T (bodyOf Tryz.f80) (endK ia io) g6 [1, 0, 1, 0, 0, 1, 0, 1, 1, 1, 1] [m1]
noncomputable def J7 (n m1 : Nat) (m : Nat) : ByteArray × Int × Int × Int × Int × Int × Unit → Option R := jL (X n) n T (bodyOf Tryz.f80) (endK ia io) g7 [1, 0, 1, 0, 0, 1, 0, 1, 1, 1, 1, 0, 1, 0] [m1] m
noncomputable def J8 (n m1 m7 : Nat) : ByteArray × Int × Int × Int × Int × Int × Unit → Option R := jR (X n) n T (bodyOf Tryz.f80) (endK ia io) g8 [1, 0, 1, 0, 0, 1, 0, 1, 1, 1, 1, 0, 1, 0, 0, 1, 0, 0, 1] [m1, m7]
noncomputable def J9 (n m1 m7 : Nat) : ByteArray × Int × Int × Int × Int × Int × Unit → Option R := jR (X n) n T (bodyOf Tryz.f80) (endK ia io) g9 [1, 0, 1, 0, 0, 1, 0, 1, 1, 1, 1, 0, 1, 0, 0, 1, 1] [m1, m7]
noncomputable def J10 (n m1 : Nat) : ByteArray × Int × Int × Int × Int × Unit → Option R := jR (X n) n T (bodyOf Tryz.f80) (endK ia io) g10 [1, 0, 1, 0, 0, 1, 0, 1, 1, 1, 1, 1] [m1]
noncomputable def J11 (n m1 : Nat) : ByteArray × Int × Int × Unit → Option R := jR (X n) n T (bodyOf Tryz.f80) (endK ia io) g11 [1, 0, 1, 0, 0, 1, 0, 1, 1, 1, 1, 1, 1] [m1]
noncomputable def J12 (n : Nat) : Unit → Option R := jR (X n) n T (bodyOf Tryz.f80) (endK ia io) g12 [1, 1] []
noncomputable def f (n : Nat) (s_ : ByteArray) : Option R := fRun (X n) n T Tryz.f80 ia io (s_, ())
theorem e0 (n : Nat) (s_ : ByteArray) : f n s_ =
  J1 n n (s_, 0, ()) := (hideF_eq _).trans (by kernel_rfl)
theorem e1 (n m : Nat) (s_ : ByteArray) (at_ : Int) : J1 n (m + 1) (s_, at_, ()) =
  bIf ((hide (decide (at_ < (s_.size : Int))))) (
    gIf (0 ≤ at_ ∧ at_ < (s_.size : Int)) (
      bIf ((hide (decide ((IntKind.i64.wrap (bt s_ at_)) < (128 : Int))))) (
        J5 n m (s_, at_, (IntKind.i64.wrap (bt s_ at_)), 1, (IntKind.i64.wrap (bt s_ at_)), 0, ())
        ) (
        bIf ((hide (decide ((IntKind.i64.wrap (bt s_ at_)) ≥ (192 : Int))))) (
          J2 n m (s_, at_, (IntKind.i64.wrap (bt s_ at_)), (hide (decide ((IntKind.i64.wrap (bt s_ at_)) < (224 : Int)))), ())
          ) (
          J2 n m (s_, at_, (IntKind.i64.wrap (bt s_ at_)), false, ())
          )
        )
      )
    ) (
    J12 n (())
    ) := (hideF_eq _).trans (by kernel_rfl)
theorem e2 (n m1 : Nat) (s_ : ByteArray) (at_ : Int) (b : Int) (t21 : Bool) : J2 n m1 (s_, at_, b, t21, ()) =
  bIf (t21) (
    J5 n m1 (s_, at_, b, 2, (IntKind.i64.wrap (b - (192 : Int))), 128, ())
    ) (
    bIf ((hide (decide (b ≥ (224 : Int))))) (
      J3 n m1 (s_, at_, b, (hide (decide (b < (240 : Int)))), ())
      ) (
      J3 n m1 (s_, at_, b, false, ())
      )
    ) := (hideF_eq _).trans (by kernel_rfl)
theorem e3 (n m1 : Nat) (s_ : ByteArray) (at_ : Int) (b : Int) (t30 : Bool) : J3 n m1 (s_, at_, b, t30, ()) =
  bIf (t30) (
    J5 n m1 (s_, at_, b, 3, (IntKind.i64.wrap (b - (224 : Int))), 2048, ())
    ) (
    bIf ((hide (decide (b ≥ (240 : Int))))) (
      J4 n m1 (s_, at_, b, (hide (decide (b < (248 : Int)))), ())
      ) (
      J4 n m1 (s_, at_, b, false, ())
      )
    ) := (hideF_eq _).trans (by kernel_rfl)
theorem e4 (n m1 : Nat) (s_ : ByteArray) (at_ : Int) (b : Int) (t39 : Bool) : J4 n m1 (s_, at_, b, t39, ()) =
  bIf (t39) (
    J5 n m1 (s_, at_, b, 4, (IntKind.i64.wrap (b - (240 : Int))), 65536, ())
    ) (
    some (false, ())
    ) := (hideF_eq _).trans (by kernel_rfl)
theorem e5 (n m1 : Nat) (s_ : ByteArray) (at_ : Int) (b : Int) (n_ : Int) (r : Int) (least : Int) : J5 n m1 (s_, at_, b, n_, r, least, ()) =
  bIf ((hide (decide (b < (32 : Int))))) (
    some (false, ())
    ) (
    bIf ((hide (b == (127 : Int)))) (
      some (false, ())
      ) (
      J6 n m1 (s_, at_, n_, r, least, ())
      )
    ) := (hideF_eq _).trans (by kernel_rfl)
theorem e6 (n m1 : Nat) (s_ : ByteArray) (at_ : Int) (n_ : Int) (r : Int) (least : Int) : J6 n m1 (s_, at_, n_, r, least, ()) =
  J7 n m1 n (s_, at_, n_, r, least, 1, ()) := (hideF_eq _).trans (by kernel_rfl)
theorem e7 (n m1 m : Nat) (s_ : ByteArray) (at_ : Int) (n_ : Int) (r : Int) (least : Int) (i : Int) : J7 n m1 (m + 1) (s_, at_, n_, r, least, i, ()) =
  bIf ((hide (decide (i < n_)))) (
    bIf ((hide (decide ((IntKind.i64.wrap (at_ + i)) ≥ (s_.size : Int))))) (
      some (false, ())
      ) (
      gIf (0 ≤ (IntKind.i64.wrap (at_ + i)) ∧ (IntKind.i64.wrap (at_ + i)) < (s_.size : Int)) (
        bIf ((hide (decide ((bt s_ (IntKind.i64.wrap (at_ + i))) < (128 : Int))))) (
          some (false, ())
          ) (
          gIf (0 ≤ (IntKind.i64.wrap (at_ + i)) ∧ (IntKind.i64.wrap (at_ + i)) < (s_.size : Int)) (
            bIf ((hide (decide ((bt s_ (IntKind.i64.wrap (at_ + i))) ≥ (192 : Int))))) (
              some (false, ())
              ) (
              J8 n m1 m (s_, at_, n_, r, least, i, ())
              )
            )
          )
        )
      )
    ) (
    J10 n m1 (s_, at_, n_, r, least, ())
    ) := (hideF_eq _).trans (by kernel_rfl)
theorem e8 (n m1 m7 : Nat) (s_ : ByteArray) (at_ : Int) (n_ : Int) (r : Int) (least : Int) (i : Int) : J8 n m1 m7 (s_, at_, n_, r, least, i, ()) =
  gIf (0 ≤ (IntKind.i64.wrap (at_ + i)) ∧ (IntKind.i64.wrap (at_ + i)) < (s_.size : Int)) (
    J9 n m1 m7 (s_, at_, n_, (IntKind.i64.wrap ((IntKind.i64.wrap ((IntKind.i64.wrap (r * (64 : Int))) + (IntKind.i64.wrap (bt s_ (IntKind.i64.wrap (at_ + i)))))) - (128 : Int))), least, i, ())
    ) := (hideF_eq _).trans (by kernel_rfl)
theorem e9 (n m1 m7 : Nat) (s_ : ByteArray) (at_ : Int) (n_ : Int) (r : Int) (least : Int) (i : Int) : J9 n m1 m7 (s_, at_, n_, r, least, i, ()) =
  J7 n m1 m7 (s_, at_, n_, r, least, (IntKind.i64.wrap (i + (1 : Int))), ()) := (hideF_eq _).trans (by kernel_rfl)
theorem e10 (n m1 : Nat) (s_ : ByteArray) (at_ : Int) (n_ : Int) (r : Int) (least : Int) : J10 n m1 (s_, at_, n_, r, least, ()) =
  bIf ((hide (decide (r < least)))) (
    some (false, ())
    ) (
    bIf ((hide (decide (r > (1114111 : Int))))) (
      some (false, ())
      ) (
      bIf ((hide (decide (r ≥ (55296 : Int))))) (
        bIf ((hide (decide (r ≤ (57343 : Int))))) (
          some (false, ())
          ) (
          J11 n m1 (s_, at_, n_, ())
          )
        ) (
        J11 n m1 (s_, at_, n_, ())
        )
      )
    ) := (hideF_eq _).trans (by kernel_rfl)
theorem e11 (n m1 : Nat) (s_ : ByteArray) (at_ : Int) (n_ : Int) : J11 n m1 (s_, at_, n_, ()) =
  J1 n m1 (s_, (IntKind.i64.wrap (at_ + n_)), ()) := (hideF_eq _).trans (by kernel_rfl)
theorem e12 (n : Nat) : J12 n (()) =
  some (true, ()) := (hideF_eq _).trans (by kernel_rfl)
theorem phi (n : Nat) : ∀ e ∈ (X n).c.Φ, EntryOk Tryz.prog e := allE_nil
theorem ok (n : Nat) : FnOk Tryz.prog 80 ia io (fRun (X n) n T Tryz.f80 ia io) := tree_ok mixed tabIs (phi n) Tryz.func80 (by kernel_rfl) rfl
noncomputable def en (n : Nat) : Entry := mkEntry 80 ia io (fRun (X n) n T Tryz.f80 ia io)
end F_ref06_Clean
end Go.Proofs.YtdlkpmohjhjmfaaGreatDoor

namespace Go.Proofs.YtdlkpmohjhjmfaaGreatDoor
open Go Go.Va Go.Proofs
namespace F_when_Clamp
abbrev ia : List Ai := [.dat (.int .i64)]
abbrev io : List (Nat × Oi) := [(2, .dat (.int .i64))]
abbrev R : Type := DOut ia io
noncomputable def X (n : Nat) : Ctx := ⟨⟨tab, [], 0, []⟩, 6, bnOf 0 ia⟩
noncomputable def T : CT := .o
noncomputable def f (n : Nat) (t : Int) : Option R := fRun (X n) n T Tryz.f170 ia io (t, ())
theorem e0 (n : Nat) (t : Int) : f n t =
  some ((maxI .i64 (-62135596800) (minI .i64 t 253402300799)), ()) := (hideF_eq _).trans (by kernel_rfl)
theorem phi (n : Nat) : ∀ e ∈ (X n).c.Φ, EntryOk Tryz.prog e := allE_nil
theorem ok (n : Nat) : FnOk Tryz.prog 170 ia io (fRun (X n) n T Tryz.f170 ia io) := tree_ok mixed tabIs (phi n) Tryz.func170 (by kernel_rfl) rfl
noncomputable def en (n : Nat) : Entry := mkEntry 170 ia io (fRun (X n) n T Tryz.f170 ia io)
end F_when_Clamp
end Go.Proofs.YtdlkpmohjhjmfaaGreatDoor

namespace Go.Proofs.YtdlkpmohjhjmfaaGreatDoor
open Go Go.Va Go.Proofs
namespace F_ref05_Clamp
abbrev ia : List Ai := [.dat (.int .i64)]
abbrev io : List (Nat × Oi) := [(2, .dat (.int .i64))]
abbrev R : Type := DOut ia io
noncomputable def X (n : Nat) : Ctx := ⟨⟨tab, [], 0, []⟩, 8, bnOf 0 ia⟩
noncomputable def T : CT := .o
noncomputable def f (n : Nat) (t : Int) : Option R := fRun (X n) n T Tryz.f126 ia io (t, ())
theorem e0 (n : Nat) (t : Int) : f n t =
  bIf ((hide (decide (t < (-62135596800 : Int))))) (
    some ((-62135596800), ())
    ) (
    bIf ((hide (decide (t > (253402300799 : Int))))) (
      some (253402300799, ())
      ) (
      some (t, ())
      )
    ) := (hideF_eq _).trans (by kernel_rfl)
theorem phi (n : Nat) : ∀ e ∈ (X n).c.Φ, EntryOk Tryz.prog e := allE_nil
theorem ok (n : Nat) : FnOk Tryz.prog 126 ia io (fRun (X n) n T Tryz.f126 ia io) := tree_ok mixed tabIs (phi n) Tryz.func126 (by kernel_rfl) rfl
noncomputable def en (n : Nat) : Entry := mkEntry 126 ia io (fRun (X n) n T Tryz.f126 ia io)
end F_ref05_Clamp
end Go.Proofs.YtdlkpmohjhjmfaaGreatDoor

namespace Go.Proofs.YtdlkpmohjhjmfaaGreatDoor
open Go Go.Va Go.Proofs
namespace F_mode_Sound
abbrev ia : List Ai := [.dat T_api_Lock]
abbrev io : List (Nat × Oi) := [(2, .dat .bool)]
abbrev R : Type := DOut ia io
noncomputable def X (n : Nat) : Ctx := ⟨⟨tab, [F_when_Clamp.en n], 0, []⟩, 19, bnOf 0 ia⟩
abbrev g1 : List Si := [.ref 1 1 T_api_Lock, .dat 10 .bool, .box 1 (.d T_api_Lock)]
noncomputable def T : CT := (.s .o (.s (.s .o (.b (.s .o (.c .o (.s .o (.r g1 .o)))))) .o))
noncomputable def J1 (n : Nat) : Bool × D_api_Lock × Unit → Option R := jR (X n) n T (bodyOf Tryz.f171) (endK ia io) g1 [1, 0, 1, 0, 1, 1, 1] []
noncomputable def f (n : Nat) (l : D_api_Lock) : Option R := fRun (X n) n T Tryz.f171 ia io (l, ())
theorem e0 (n : Nat) (l : D_api_Lock) : f n l =
  bIf ((hide (l.1 == (0 : Int)))) (
    some ((hide (l.2.1 == (0 : Int))), ())
    ) (
    bIf ((hide (l.1 == (1 : Int)))) (
      J1 n (true, l, ())
      ) (
      J1 n ((hide (l.1 == (2 : Int))), l, ())
      )
    ) := (hideF_eq _).trans (by kernel_rfl)
theorem e1 (n : Nat) (t10 : Bool) (l : D_api_Lock) : J1 n (t10, l, ()) =
  bIf (t10) (
    bnd (F_when_Clamp.f n l.2.1) fun u1 =>
    some ((hide (l.2.1 == u1.1)), ())
    ) (
    some (false, ())
    ) := (hideF_eq _).trans (by kernel_rfl)
theorem phi (n : Nat) : ∀ e ∈ (X n).c.Φ, EntryOk Tryz.prog e := allE_cons (mkEntry_ok (F_when_Clamp.ok n)) (allE_nil)
theorem ok (n : Nat) : FnOk Tryz.prog 171 ia io (fRun (X n) n T Tryz.f171 ia io) := tree_ok mixed tabIs (phi n) Tryz.func171 (by kernel_rfl) rfl
noncomputable def en (n : Nat) : Entry := mkEntry 171 ia io (fRun (X n) n T Tryz.f171 ia io)
end F_mode_Sound
end Go.Proofs.YtdlkpmohjhjmfaaGreatDoor

namespace Go.Proofs.YtdlkpmohjhjmfaaGreatDoor
open Go Go.Va Go.Proofs
namespace F_ref12_Sound
abbrev ia : List Ai := [.dat T_api_Lock]
abbrev io : List (Nat × Oi) := [(2, .dat .bool)]
abbrev R : Type := DOut ia io
noncomputable def X (n : Nat) : Ctx := ⟨⟨tab, [F_ref05_Clamp.en n], 0, []⟩, 25, bnOf 0 ia⟩
noncomputable def T : CT := .o
noncomputable def f (n : Nat) (l : D_api_Lock) : Option R := fRun (X n) n T Tryz.f87 ia io (l, ())
theorem e0 (n : Nat) (l : D_api_Lock) : f n l =
  bIf ((hide (l.1 == (0 : Int)))) (
    some ((hide (l.2.1 == (0 : Int))), ())
    ) (
    bIf ((hide (l.1 == (1 : Int)))) (
      bnd (F_ref05_Clamp.f n l.2.1) fun u1 =>
      some ((hide (u1.1 == l.2.1)), ())
      ) (
      bIf ((hide (l.1 == (2 : Int)))) (
        bnd (F_ref05_Clamp.f n l.2.1) fun u2 =>
        some ((hide (u2.1 == l.2.1)), ())
        ) (
        some (false, ())
        )
      )
    ) := (hideF_eq _).trans (by kernel_rfl)
theorem phi (n : Nat) : ∀ e ∈ (X n).c.Φ, EntryOk Tryz.prog e := allE_cons (mkEntry_ok (F_ref05_Clamp.ok n)) (allE_nil)
theorem ok (n : Nat) : FnOk Tryz.prog 87 ia io (fRun (X n) n T Tryz.f87 ia io) := tree_ok mixed tabIs (phi n) Tryz.func87 (by kernel_rfl) rfl
noncomputable def en (n : Nat) : Entry := mkEntry 87 ia io (fRun (X n) n T Tryz.f87 ia io)
end F_ref12_Sound
end Go.Proofs.YtdlkpmohjhjmfaaGreatDoor

namespace Go.Proofs.YtdlkpmohjhjmfaaGreatDoor
open Go Go.Va Go.Proofs
namespace F_tags_good
abbrev ia : List Ai := [.dat T_api_Tag]
abbrev io : List (Nat × Oi) := [(2, .dat .bool)]
abbrev R : Type := DOut ia io
noncomputable def X (n : Nat) : Ctx := ⟨⟨tab, [F_label_Clean.en n], 0, []⟩, 28, bnOf 0 ia⟩
noncomputable def T : CT := .o
noncomputable def f (n : Nat) (t : D_api_Tag) : Option R := fRun (X n) n T Tryz.f224 ia io (t, ())
theorem e0 (n : Nat) (t : D_api_Tag) : f n t =
  bIf ((hide (!eqS t.1 (⟨#[]⟩ : ByteArray)))) (
    bIf ((hide (decide ((t.1.size : Int) ≤ (64 : Int))))) (
      bIf ((hide (decide ((t.2.1.size : Int) ≤ (64 : Int))))) (
        bnd (F_label_Clean.f n t.1) fun u1 =>
        bIf (u1.1) (
          bnd (F_label_Clean.f n t.2.1) fun u2 =>
          some (u2.1, ())
          ) (
          some (false, ())
          )
        ) (
        some (false, ())
        )
      ) (
      some (false, ())
      )
    ) (
    some (false, ())
    ) := (hideF_eq _).trans (by kernel_rfl)
theorem phi (n : Nat) : ∀ e ∈ (X n).c.Φ, EntryOk Tryz.prog e := allE_cons (mkEntry_ok (F_label_Clean.ok n)) (allE_nil)
theorem ok (n : Nat) : FnOk Tryz.prog 224 ia io (fRun (X n) n T Tryz.f224 ia io) := tree_ok mixed tabIs (phi n) Tryz.func224 (by kernel_rfl) rfl
noncomputable def en (n : Nat) : Entry := mkEntry 224 ia io (fRun (X n) n T Tryz.f224 ia io)
end F_tags_good
end Go.Proofs.YtdlkpmohjhjmfaaGreatDoor

namespace Go.Proofs.YtdlkpmohjhjmfaaGreatDoor
open Go Go.Va Go.Proofs
namespace F_tags_Sound
abbrev ia : List Ai := [.dat (.slice T_api_Tag)]
abbrev io : List (Nat × Oi) := [(2, .dat .bool)]
abbrev R : Type := DOut ia io
noncomputable def X (n : Nat) : Ctx := ⟨⟨tab, [F_tags_good.en n], 0, []⟩, 34, bnOf 0 ia⟩
abbrev g1 : List Si := [.dat 0 (.slice T_api_Tag), .dat 8 (.slice T_api_Tag), .dat 9 (.int .i64), .dat 10 (.int .i64)]
abbrev g2 : List Si := []
noncomputable def T : CT := (.s .o (.s .o (.s (.s .o (.b (.l g1 .o))) (.r g2 .o))))
noncomputable def J1 (n : Nat) (m : Nat) : (List (D_api_Tag)) × (List (D_api_Tag)) × Int × Int × Unit → Option R := jL (X n) n T (bodyOf Tryz.f172) (endK ia io) g1 [1, 1, 0, 1, 0] [] m
noncomputable def J2 (n : Nat) : Unit → Option R := jR (X n) n T (bodyOf Tryz.f172) (endK ia io) g2 [1, 1, 1] []
noncomputable def f (n : Nat) (list : List (D_api_Tag)) : Option R := fRun (X n) n T Tryz.f172 ia io (list, ())
theorem e0 (n : Nat) (list : List (D_api_Tag)) : f n list =
  bIf ((hide (decide (((list.length : Nat) : Int) > (8 : Int))))) (
    some (false, ())
    ) (
    J1 n n (list, list, ((list.length : Nat) : Int), 0, ())
    ) := (hideF_eq _).trans (by kernel_rfl)
theorem e1 (n m : Nat) (list : List (D_api_Tag)) (t8 : List (D_api_Tag)) (t9 : Int) (t10 : Int) : J1 n (m + 1) (list, t8, t9, t10, ()) =
  bIf ((hide (decide (t10 < t9)))) (
    gIf (0 ≤ t10 ∧ t10 < ((t8.length : Nat) : Int)) (
      bnd (F_tags_good.f n (List.getD t8 t10.toNat (Va.dflt T_api_Tag))) fun u1 =>
      bIf ((!u1.1)) (
        some (false, ())
        ) (
        bIf ((hide (decide (t10 > (0 : Int))))) (
          gIf (0 ≤ (IntKind.i64.wrap (t10 - (1 : Int))) ∧ (IntKind.i64.wrap (t10 - (1 : Int))) < ((list.length : Nat) : Int)) (
            bIf ((hide (!ltS ((List.getD list ((IntKind.i64.wrap (t10 - (1 : Int))).toNat) (Va.dflt T_api_Tag)).1) ((List.getD t8 t10.toNat (Va.dflt T_api_Tag)).1)))) (
              some (false, ())
              ) (
              J1 n m (list, t8, t9, (IntKind.i64.wrap (t10 + (1 : Int))), ())
              )
            )
          ) (
          J1 n m (list, t8, t9, (IntKind.i64.wrap (t10 + (1 : Int))), ())
          )
        )
      )
    ) (
    J2 n (())
    ) := (hideF_eq _).trans (by kernel_rfl)
theorem e2 (n : Nat) : J2 n (()) =
  some (true, ()) := (hideF_eq _).trans (by kernel_rfl)
theorem phi (n : Nat) : ∀ e ∈ (X n).c.Φ, EntryOk Tryz.prog e := allE_cons (mkEntry_ok (F_tags_good.ok n)) (allE_nil)
theorem ok (n : Nat) : FnOk Tryz.prog 172 ia io (fRun (X n) n T Tryz.f172 ia io) := tree_ok mixed tabIs (phi n) Tryz.func172 (by kernel_rfl) rfl
noncomputable def en (n : Nat) : Entry := mkEntry 172 ia io (fRun (X n) n T Tryz.f172 ia io)
end F_tags_Sound
end Go.Proofs.YtdlkpmohjhjmfaaGreatDoor

namespace Go.Proofs.YtdlkpmohjhjmfaaGreatDoor
open Go Go.Va Go.Proofs
namespace F_ref08_Sound
abbrev ia : List Ai := [.dat (.slice T_api_Tag)]
abbrev io : List (Nat × Oi) := [(2, .dat .bool)]
abbrev R : Type := DOut ia io
noncomputable def X (n : Nat) : Ctx := ⟨⟨tab, [F_ref06_Clean.en n], 0, []⟩, 72, bnOf 0 ia⟩
abbrev g1 : List Si := [.dat 0 (.slice T_api_Tag), .dat 3 (.int .i64)]
abbrev g2 : List Si := [.dat 0 (.slice T_api_Tag), .dat 3 (.int .i64)]
abbrev g3 : List Si := [.dat 0 (.slice T_api_Tag), .dat 3 (.int .i64)]
abbrev g4 : List Si := []
noncomputable def T : CT := (.s .o (.s .o (.s (.s .o (.b (.l g1 (.s .o (.s (.b (.s .o (.r g2 .o))) (.r g3 .o)))))) (.r g4 .o))))
noncomputable def J1 (n : Nat) (m : Nat) : (List (D_api_Tag)) × Int × Unit → Option R := jL (X n) n T (bodyOf Tryz.f86) (endK ia io) g1 [1, 1, 0, 1, 0] [] m
noncomputable def J2 (n m1 : Nat) : (List (D_api_Tag)) × Int × Unit → Option R := jR (X n) n T (bodyOf Tryz.f86) (endK ia io) g2 [1, 1, 0, 1, 0, 0, 1, 0, 0, 1] [m1]
noncomputable def J3 (n m1 : Nat) : (List (D_api_Tag)) × Int × Unit → Option R := jR (X n) n T (bodyOf Tryz.f86) (endK ia io) g3 [1, 1, 0, 1, 0, 0, 1, 1] [m1]
noncomputable def J4 (n : Nat) : Unit → Option R := jR (X n) n T (bodyOf Tryz.f86) (endK ia io) g4 [1, 1, 1] []
noncomputable def f (n : Nat) (l : List (D_api_Tag)) : Option R := fRun (X n) n T Tryz.f86 ia io (l, ())
theorem e0 (n : Nat) (l : List (D_api_Tag)) : f n l =
  bIf ((hide (decide (((l.length : Nat) : Int) > (8 : Int))))) (
    some (false, ())
    ) (
    J1 n n (l, 0, ())
    ) := (hideF_eq _).trans (by kernel_rfl)
theorem e1 (n m : Nat) (l : List (D_api_Tag)) (i : Int) : J1 n (m + 1) (l, i, ()) =
  bIf ((hide (decide (i < ((l.length : Nat) : Int))))) (
    gIf (0 ≤ i ∧ i < ((l.length : Nat) : Int)) (
      bIf ((hide (decide ((((List.getD l i.toNat (Va.dflt T_api_Tag)).1).size : Int) < (1 : Int))))) (
        some (false, ())
        ) (
        gIf (0 ≤ i ∧ i < ((l.length : Nat) : Int)) (
          bIf ((hide (decide ((((List.getD l i.toNat (Va.dflt T_api_Tag)).1).size : Int) > (64 : Int))))) (
            some (false, ())
            ) (
            gIf (0 ≤ i ∧ i < ((l.length : Nat) : Int)) (
              bIf ((hide (decide (((((List.getD l i.toNat (Va.dflt T_api_Tag)).2).1).size : Int) > (64 : Int))))) (
                some (false, ())
                ) (
                gIf (0 ≤ i ∧ i < ((l.length : Nat) : Int)) (
                  bnd (F_ref06_Clean.f n ((List.getD l i.toNat (Va.dflt T_api_Tag)).1)) fun u1 =>
                  bIf ((!u1.1)) (
                    some (false, ())
                    ) (
                    gIf (0 ≤ i ∧ i < ((l.length : Nat) : Int)) (
                      bnd (F_ref06_Clean.f n (((List.getD l i.toNat (Va.dflt T_api_Tag)).2).1)) fun u2 =>
                      bIf ((!u2.1)) (
                        some (false, ())
                        ) (
                        J2 n m (l, i, ())
                        )
                      )
                    )
                  )
                )
              )
            )
          )
        )
      )
    ) (
    J4 n (())
    ) := (hideF_eq _).trans (by kernel_rfl)
theorem e2 (n m1 : Nat) (l : List (D_api_Tag)) (i : Int) : J2 n m1 (l, i, ()) =
  bIf ((hide (decide (i > (0 : Int))))) (
    gIf (0 ≤ i ∧ i < ((l.length : Nat) : Int)) (
      gIf (0 ≤ (IntKind.i64.wrap (i - (1 : Int))) ∧ (IntKind.i64.wrap (i - (1 : Int))) < ((l.length : Nat) : Int)) (
        bIf ((hide (ltS ((List.getD l i.toNat (Va.dflt T_api_Tag)).1) ((List.getD l ((IntKind.i64.wrap (i - (1 : Int))).toNat) (Va.dflt T_api_Tag)).1) || eqS ((List.getD l i.toNat (Va.dflt T_api_Tag)).1) ((List.getD l ((IntKind.i64.wrap (i - (1 : Int))).toNat) (Va.dflt T_api_Tag)).1)))) (
          some (false, ())
          ) (
          J3 n m1 (l, i, ())
          )
        )
      )
    ) (
    J3 n m1 (l, i, ())
    ) := (hideF_eq _).trans (by kernel_rfl)
theorem e3 (n m1 : Nat) (l : List (D_api_Tag)) (i : Int) : J3 n m1 (l, i, ()) =
  J1 n m1 (l, (IntKind.i64.wrap (i + (1 : Int))), ()) := (hideF_eq _).trans (by kernel_rfl)
theorem e4 (n : Nat) : J4 n (()) =
  some (true, ()) := (hideF_eq _).trans (by kernel_rfl)
theorem phi (n : Nat) : ∀ e ∈ (X n).c.Φ, EntryOk Tryz.prog e := allE_cons (mkEntry_ok (F_ref06_Clean.ok n)) (allE_nil)
theorem ok (n : Nat) : FnOk Tryz.prog 86 ia io (fRun (X n) n T Tryz.f86 ia io) := tree_ok mixed tabIs (phi n) Tryz.func86 (by kernel_rfl) rfl
noncomputable def en (n : Nat) : Entry := mkEntry 86 ia io (fRun (X n) n T Tryz.f86 ia io)
end F_ref08_Sound
end Go.Proofs.YtdlkpmohjhjmfaaGreatDoor

namespace Go.Proofs.YtdlkpmohjhjmfaaGreatDoor
open Go Go.Va Go.Proofs
namespace F_slices_Equal_Tag
abbrev ia : List Ai := [.dat (.slice T_api_Tag), .dat (.slice T_api_Tag)]
abbrev io : List (Nat × Oi) := [(4, .dat .bool)]
abbrev R : Type := DOut ia io
noncomputable def X (n : Nat) : Ctx := ⟨⟨tab, [], 0, []⟩, 26, bnOf 0 ia⟩
abbrev g1 : List Si := [.dat 0 (.slice T_api_Tag), .dat 1 (.slice T_api_Tag), .dat 12 (.int .i64), .dat 13 (.int .i64)]
abbrev g2 : List Si := []
noncomputable def T : CT := (.s .o (.s .o (.s (.s .o (.b (.l g1 .o))) (.r g2 .o))))
noncomputable def J1 (n : Nat) (m : Nat) : (List (D_api_Tag)) × (List (D_api_Tag)) × Int × Int × Unit → Option R := jL (X n) n T (bodyOf Tryz.f194) (endK ia io) g1 [1, 1, 0, 1, 0] [] m
noncomputable def J2 (n : Nat) : Unit → Option R := jR (X n) n T (bodyOf Tryz.f194) (endK ia io) g2 [1, 1, 1] []
noncomputable def f (n : Nat) (s1 : List (D_api_Tag)) (s2 : List (D_api_Tag)) : Option R := fRun (X n) n T Tryz.f194 ia io (s1, s2, ())
theorem e0 (n : Nat) (s1 : List (D_api_Tag)) (s2 : List (D_api_Tag)) : f n s1 s2 =
  bIf ((hide (((s1.length : Nat) : Int) != ((s2.length : Nat) : Int)))) (
    some (false, ())
    ) (
    J1 n n (s1, s2, ((s1.length : Nat) : Int), 0, ())
    ) := (hideF_eq _).trans (by kernel_rfl)
theorem e1 (n m : Nat) (s1 : List (D_api_Tag)) (s2 : List (D_api_Tag)) (t12 : Int) (t13 : Int) : J1 n (m + 1) (s1, s2, t12, t13, ()) =
  bIf ((hide (decide (t13 < t12)))) (
    gIf (0 ≤ t13 ∧ t13 < ((s1.length : Nat) : Int)) (
      gIf (0 ≤ t13 ∧ t13 < ((s2.length : Nat) : Int)) (
        bIf ((hide (!(eqD T_api_Tag (List.getD s1 t13.toNat (Va.dflt T_api_Tag)) (List.getD s2 t13.toNat (Va.dflt T_api_Tag)))))) (
          some (false, ())
          ) (
          J1 n m (s1, s2, t12, (IntKind.i64.wrap (t13 + (1 : Int))), ())
          )
        )
      )
    ) (
    J2 n (())
    ) := (hideF_eq _).trans (by kernel_rfl)
theorem e2 (n : Nat) : J2 n (()) =
  some (true, ()) := (hideF_eq _).trans (by kernel_rfl)
theorem phi (n : Nat) : ∀ e ∈ (X n).c.Φ, EntryOk Tryz.prog e := allE_nil
theorem ok (n : Nat) : FnOk Tryz.prog 194 ia io (fRun (X n) n T Tryz.f194 ia io) := tree_ok mixed tabIs (phi n) Tryz.func194 (by kernel_rfl) rfl
noncomputable def en (n : Nat) : Entry := mkEntry 194 ia io (fRun (X n) n T Tryz.f194 ia io)
end F_slices_Equal_Tag
end Go.Proofs.YtdlkpmohjhjmfaaGreatDoor

namespace Go.Proofs.YtdlkpmohjhjmfaaGreatDoor
open Go Go.Va Go.Proofs
namespace F_tags_Same
abbrev ia : List Ai := [.dat (.slice T_api_Tag), .dat (.slice T_api_Tag)]
abbrev io : List (Nat × Oi) := [(4, .dat .bool)]
abbrev R : Type := DOut ia io
noncomputable def X (n : Nat) : Ctx := ⟨⟨tab, [F_slices_Equal_Tag.en n], 0, []⟩, 8, bnOf 0 ia⟩
noncomputable def T : CT := .o
noncomputable def f (n : Nat) (a : List (D_api_Tag)) (b : List (D_api_Tag)) : Option R := fRun (X n) n T Tryz.f139 ia io (a, b, ())
theorem e0 (n : Nat) (a : List (D_api_Tag)) (b : List (D_api_Tag)) : f n a b =
  bnd (F_slices_Equal_Tag.f n a b) fun u1 =>
  some (u1.1, ()) := (hideF_eq _).trans (by kernel_rfl)
theorem phi (n : Nat) : ∀ e ∈ (X n).c.Φ, EntryOk Tryz.prog e := allE_cons (mkEntry_ok (F_slices_Equal_Tag.ok n)) (allE_nil)
theorem ok (n : Nat) : FnOk Tryz.prog 139 ia io (fRun (X n) n T Tryz.f139 ia io) := tree_ok mixed tabIs (phi n) Tryz.func139 (by kernel_rfl) rfl
noncomputable def en (n : Nat) : Entry := mkEntry 139 ia io (fRun (X n) n T Tryz.f139 ia io)
end F_tags_Same
end Go.Proofs.YtdlkpmohjhjmfaaGreatDoor

namespace Go.Proofs.YtdlkpmohjhjmfaaGreatDoor
open Go Go.Va Go.Proofs
namespace F_ref08_Same
abbrev ia : List Ai := [.dat (.slice T_api_Tag), .dat (.slice T_api_Tag)]
abbrev io : List (Nat × Oi) := [(4, .dat .bool)]
abbrev R : Type := DOut ia io
noncomputable def X (n : Nat) : Ctx := ⟨⟨tab, [], 0, []⟩, 41, bnOf 0 ia⟩
abbrev g1 : List Si := [.dat 0 (.slice T_api_Tag), .dat 1 (.slice T_api_Tag), .dat 5 (.int .i64)]
abbrev g2 : List Si := [.dat 0 (.slice T_api_Tag), .dat 1 (.slice T_api_Tag), .dat 5 (.int .i64)]
abbrev g3 : List Si := []
noncomputable def T : CT := (.s .o (.s .o (.s (.s .o (.b (.l g1 (.s .o (.s .o (.r g2 .o)))))) (.r g3 .o))))
noncomputable def J1 (n : Nat) (m : Nat) : (List (D_api_Tag)) × (List (D_api_Tag)) × Int × Unit → Option R := jL (X n) n T (bodyOf Tryz.f102) (endK ia io) g1 [1, 1, 0, 1, 0] [] m
noncomputable def J2 (n m1 : Nat) : (List (D_api_Tag)) × (List (D_api_Tag)) × Int × Unit → Option R := jR (X n) n T (bodyOf Tryz.f102) (endK ia io) g2 [1, 1, 0, 1, 0, 0, 1, 1] [m1]
noncomputable def J3 (n : Nat) : Unit → Option R := jR (X n) n T (bodyOf Tryz.f102) (endK ia io) g3 [1, 1, 1] []
noncomputable def f (n : Nat) (a : List (D_api_Tag)) (b : List (D_api_Tag)) : Option R := fRun (X n) n T Tryz.f102 ia io (a, b, ())
theorem e0 (n : Nat) (a : List (D_api_Tag)) (b : List (D_api_Tag)) : f n a b =
  bIf ((hide (((a.length : Nat) : Int) != ((b.length : Nat) : Int)))) (
    some (false, ())
    ) (
    J1 n n (a, b, 0, ())
    ) := (hideF_eq _).trans (by kernel_rfl)
theorem e1 (n m : Nat) (a : List (D_api_Tag)) (b : List (D_api_Tag)) (i : Int) : J1 n (m + 1) (a, b, i, ()) =
  bIf ((hide (decide (i < ((a.length : Nat) : Int))))) (
    gIf (0 ≤ i ∧ i < ((a.length : Nat) : Int)) (
      gIf (0 ≤ i ∧ i < ((b.length : Nat) : Int)) (
        bIf ((hide (!eqS ((List.getD a i.toNat (Va.dflt T_api_Tag)).1) ((List.getD b i.toNat (Va.dflt T_api_Tag)).1)))) (
          some (false, ())
          ) (
          gIf (0 ≤ i ∧ i < ((a.length : Nat) : Int)) (
            gIf (0 ≤ i ∧ i < ((b.length : Nat) : Int)) (
              bIf ((hide (!eqS (((List.getD a i.toNat (Va.dflt T_api_Tag)).2).1) (((List.getD b i.toNat (Va.dflt T_api_Tag)).2).1)))) (
                some (false, ())
                ) (
                J2 n m (a, b, i, ())
                )
              )
            )
          )
        )
      )
    ) (
    J3 n (())
    ) := (hideF_eq _).trans (by kernel_rfl)
theorem e2 (n m1 : Nat) (a : List (D_api_Tag)) (b : List (D_api_Tag)) (i : Int) : J2 n m1 (a, b, i, ()) =
  J1 n m1 (a, b, (IntKind.i64.wrap (i + (1 : Int))), ()) := (hideF_eq _).trans (by kernel_rfl)
theorem e3 (n : Nat) : J3 n (()) =
  some (true, ()) := (hideF_eq _).trans (by kernel_rfl)
theorem phi (n : Nat) : ∀ e ∈ (X n).c.Φ, EntryOk Tryz.prog e := allE_nil
theorem ok (n : Nat) : FnOk Tryz.prog 102 ia io (fRun (X n) n T Tryz.f102 ia io) := tree_ok mixed tabIs (phi n) Tryz.func102 (by kernel_rfl) rfl
noncomputable def en (n : Nat) : Entry := mkEntry 102 ia io (fRun (X n) n T Tryz.f102 ia io)
end F_ref08_Same
end Go.Proofs.YtdlkpmohjhjmfaaGreatDoor

namespace Go.Proofs.YtdlkpmohjhjmfaaGreatDoor
open Go Go.Va Go.Proofs
namespace F_label_Key
abbrev ia : List Ai := [.dat .str]
abbrev io : List (Nat × Oi) := [(2, .dat .bool)]
abbrev R : Type := DOut ia io
noncomputable def X (n : Nat) : Ctx := ⟨⟨tab, [F_label_Clean.en n], 0, []⟩, 14, bnOf 0 ia⟩
noncomputable def T : CT := .o
noncomputable def f (n : Nat) (s_ : ByteArray) : Option R := fRun (X n) n T Tryz.f193 ia io (s_, ())
theorem e0 (n : Nat) (s_ : ByteArray) : f n s_ =
  bIf ((hide (!eqS s_ (⟨#[]⟩ : ByteArray)))) (
    bIf ((hide (decide ((s_.size : Int) ≤ (200 : Int))))) (
      bnd (F_label_Clean.f n s_) fun u1 =>
      some (u1.1, ())
      ) (
      some (false, ())
      )
    ) (
    some (false, ())
    ) := (hideF_eq _).trans (by kernel_rfl)
theorem phi (n : Nat) : ∀ e ∈ (X n).c.Φ, EntryOk Tryz.prog e := allE_cons (mkEntry_ok (F_label_Clean.ok n)) (allE_nil)
theorem ok (n : Nat) : FnOk Tryz.prog 193 ia io (fRun (X n) n T Tryz.f193 ia io) := tree_ok mixed tabIs (phi n) Tryz.func193 (by kernel_rfl) rfl
noncomputable def en (n : Nat) : Entry := mkEntry 193 ia io (fRun (X n) n T Tryz.f193 ia io)
end F_label_Key
end Go.Proofs.YtdlkpmohjhjmfaaGreatDoor

namespace Go.Proofs.YtdlkpmohjhjmfaaGreatDoor
open Go Go.Va Go.Proofs
namespace F_object_Good
abbrev ia : List Ai := [.dat T_api_Version]
abbrev io : List (Nat × Oi) := [(2, .dat .bool)]
abbrev R : Type := DOut ia io
noncomputable def X (n : Nat) : Ctx := ⟨⟨tab, [F_when_Clamp.en n, F_mode_Sound.en n, F_tags_Sound.en n], 0, []⟩, 65, bnOf 0 ia⟩
abbrev g1 : List Si := [.ref 1 1 T_api_Version, .box 1 (.d T_api_Version)]
noncomputable def T : CT := (.s .o (.s .o (.r g1 .o)))
noncomputable def J1 (n : Nat) : D_api_Version × Unit → Option R := jR (X n) n T (bodyOf Tryz.f108) (endK ia io) g1 [1, 1] []
noncomputable def f (n : Nat) (v_ : D_api_Version) : Option R := fRun (X n) n T Tryz.f108 ia io (v_, ())
theorem e0 (n : Nat) (v_ : D_api_Version) : f n v_ =
  bIf ((hide (v_.1 == (0 : Int)))) (
    some (false, ())
    ) (
    bnd (F_when_Clamp.f n v_.2.2.2.2.2.1) fun u1 =>
    bIf ((hide (v_.2.2.2.2.2.1 != u1.1))) (
      some (false, ())
      ) (
      J1 n (v_, ())
      )
    ) := (hideF_eq _).trans (by kernel_rfl)
theorem e1 (n : Nat) (v_ : D_api_Version) : J1 n (v_, ()) =
  bIf (v_.2.1) (
    bIf ((hide (v_.2.2.1 == (0 : Int)))) (
      bIf ((hide (v_.2.2.2.1 == (0 : Int)))) (
        bIf ((hide (eqD (.arr 32 (.int .u8)) v_.2.2.2.2.1 ([] ++ List.replicate (32 - ([] : List (Int)).length) 0)))) (
          bIf ((hide (eqD T_api_Lock v_.2.2.2.2.2.2.1 (0, (0, (false, ())))))) (
            some ((hide (((v_.2.2.2.2.2.2.2.1.length : Nat) : Int) == (0 : Int))), ())
            ) (
            some (false, ())
            )
          ) (
          some (false, ())
          )
        ) (
        some (false, ())
        )
      ) (
      some (false, ())
      )
    ) (
    bIf ((hide (decide (v_.2.2.1 ≥ (0 : Int))))) (
      bIf ((hide (decide (v_.2.2.1 ≤ (16384 : Int))))) (
        bIf ((hide (decide (v_.2.2.2.1 > (0 : Int))))) (
          bnd (F_mode_Sound.f n v_.2.2.2.2.2.2.1) fun u1 =>
          bIf (u1.1) (
            bnd (F_tags_Sound.f n v_.2.2.2.2.2.2.2.1) fun u2 =>
            some (u2.1, ())
            ) (
            some (false, ())
            )
          ) (
          some (false, ())
          )
        ) (
        some (false, ())
        )
      ) (
      some (false, ())
      )
    ) := (hideF_eq _).trans (by kernel_rfl)
theorem phi (n : Nat) : ∀ e ∈ (X n).c.Φ, EntryOk Tryz.prog e := allE_cons (mkEntry_ok (F_when_Clamp.ok n)) (allE_cons (mkEntry_ok (F_mode_Sound.ok n)) (allE_cons (mkEntry_ok (F_tags_Sound.ok n)) (allE_nil)))
theorem ok (n : Nat) : FnOk Tryz.prog 108 ia io (fRun (X n) n T Tryz.f108 ia io) := tree_ok mixed tabIs (phi n) Tryz.func108 (by kernel_rfl) rfl
noncomputable def en (n : Nat) : Entry := mkEntry 108 ia io (fRun (X n) n T Tryz.f108 ia io)
end F_object_Good
end Go.Proofs.YtdlkpmohjhjmfaaGreatDoor

namespace Go.Proofs.YtdlkpmohjhjmfaaGreatDoor
open Go Go.Va Go.Proofs
namespace F_ref13_Good
abbrev ia : List Ai := [.dat T_api_Version]
abbrev io : List (Nat × Oi) := [(2, .dat .bool)]
abbrev R : Type := DOut ia io
noncomputable def X (n : Nat) : Ctx := ⟨⟨tab, [F_ref08_Sound.en n, F_ref12_Sound.en n, F_ref05_Clamp.en n], 0, []⟩, 82, bnOf 0 ia⟩
abbrev g1 : List Si := [.ref 1 1 T_api_Version, .box 1 (.d T_api_Version)]
abbrev g2 : List Si := [.ref 1 1 T_api_Version, .dat 3 (.int .i64), .box 1 (.d T_api_Version)]
abbrev g3 : List Si := [.ref 1 1 T_api_Version, .box 1 (.d T_api_Version)]
noncomputable def T : CT := (.s .o (.s .o (.r g1 (.s .o (.s (.s .o (.b (.l g2 .o))) (.r g3 .o))))))
noncomputable def J1 (n : Nat) : D_api_Version × Unit → Option R := jR (X n) n T (bodyOf Tryz.f66) (endK ia io) g1 [1, 1] []
noncomputable def J2 (n : Nat) (m : Nat) : Int × D_api_Version × Unit → Option R := jL (X n) n T (bodyOf Tryz.f66) (endK ia io) g2 [1, 1, 1, 0, 1, 0] [] m
noncomputable def J3 (n : Nat) : D_api_Version × Unit → Option R := jR (X n) n T (bodyOf Tryz.f66) (endK ia io) g3 [1, 1, 1, 1] []
noncomputable def f (n : Nat) (v_ : D_api_Version) : Option R := fRun (X n) n T Tryz.f66 ia io (v_, ())
theorem e0 (n : Nat) (v_ : D_api_Version) : f n v_ =
  bIf ((hide (decide (v_.1 < (1 : Int))))) (
    some (false, ())
    ) (
    bnd (F_ref05_Clamp.f n v_.2.2.2.2.2.1) fun u1 =>
    bIf ((hide (u1.1 != v_.2.2.2.2.2.1))) (
      some (false, ())
      ) (
      J1 n (v_, ())
      )
    ) := (hideF_eq _).trans (by kernel_rfl)
theorem e1 (n : Nat) (v_ : D_api_Version) : J1 n (v_, ()) =
  bIf ((!v_.2.1)) (
    bIf ((hide (decide (v_.2.2.1 ≥ (0 : Int))))) (
      bIf ((hide (decide (v_.2.2.1 ≤ (16384 : Int))))) (
        bIf ((hide (decide (v_.2.2.2.1 ≥ (1 : Int))))) (
          bnd (F_ref12_Sound.f n v_.2.2.2.2.2.2.1) fun u1 =>
          bIf (u1.1) (
            bnd (F_ref08_Sound.f n v_.2.2.2.2.2.2.2.1) fun u2 =>
            some (u2.1, ())
            ) (
            some (false, ())
            )
          ) (
          some (false, ())
          )
        ) (
        some (false, ())
        )
      ) (
      some (false, ())
      )
    ) (
    J2 n n (0, v_, ())
    ) := (hideF_eq _).trans (by kernel_rfl)
theorem e2 (n m : Nat) (i : Int) (v_ : D_api_Version) : J2 n (m + 1) (i, v_, ()) =
  bIf ((hide (decide (i < (32 : Int))))) (
    gIf (0 ≤ i ∧ i < ((32 : Nat) : Int)) (
      bIf ((hide ((List.getD v_.2.2.2.2.1 i.toNat 0) != (0 : Int)))) (
        some (false, ())
        ) (
        J2 n m ((IntKind.i64.wrap (i + (1 : Int))), v_, ())
        )
      )
    ) (
    J3 n (v_, ())
    ) := (hideF_eq _).trans (by kernel_rfl)
theorem e3 (n : Nat) (v_ : D_api_Version) : J3 n (v_, ()) =
  bIf ((hide (v_.2.2.1 == (0 : Int)))) (
    bIf ((hide (v_.2.2.2.1 == (0 : Int)))) (
      bIf ((hide (v_.2.2.2.2.2.2.1.1 == (0 : Int)))) (
        bIf ((hide (v_.2.2.2.2.2.2.1.2.1 == (0 : Int)))) (
          bIf ((!v_.2.2.2.2.2.2.1.2.2.1)) (
            some ((hide (((v_.2.2.2.2.2.2.2.1.length : Nat) : Int) == (0 : Int))), ())
            ) (
            some (false, ())
            )
          ) (
          some (false, ())
          )
        ) (
        some (false, ())
        )
      ) (
      some (false, ())
      )
    ) (
    some (false, ())
    ) := (hideF_eq _).trans (by kernel_rfl)
theorem phi (n : Nat) : ∀ e ∈ (X n).c.Φ, EntryOk Tryz.prog e := allE_cons (mkEntry_ok (F_ref08_Sound.ok n)) (allE_cons (mkEntry_ok (F_ref12_Sound.ok n)) (allE_cons (mkEntry_ok (F_ref05_Clamp.ok n)) (allE_nil)))
theorem ok (n : Nat) : FnOk Tryz.prog 66 ia io (fRun (X n) n T Tryz.f66 ia io) := tree_ok mixed tabIs (phi n) Tryz.func66 (by kernel_rfl) rfl
noncomputable def en (n : Nat) : Entry := mkEntry 66 ia io (fRun (X n) n T Tryz.f66 ia io)
end F_ref13_Good
end Go.Proofs.YtdlkpmohjhjmfaaGreatDoor

namespace Go.Proofs.YtdlkpmohjhjmfaaGreatDoor
open Go Go.Va Go.Proofs
namespace F_object_SameVersion
abbrev ia : List Ai := [.dat T_api_Version, .dat T_api_Version]
abbrev io : List (Nat × Oi) := [(4, .dat .bool)]
abbrev R : Type := DOut ia io
noncomputable def X (n : Nat) : Ctx := ⟨⟨tab, [F_tags_Same.en n], 0, []⟩, 61, bnOf 0 ia⟩
noncomputable def T : CT := .o
noncomputable def f (n : Nat) (a : D_api_Version) (b : D_api_Version) : Option R := fRun (X n) n T Tryz.f166 ia io (a, b, ())
theorem e0 (n : Nat) (a : D_api_Version) (b : D_api_Version) : f n a b =
  bnd (F_tags_Same.f n a.2.2.2.2.2.2.2.1 b.2.2.2.2.2.2.2.1) fun u1 =>
  bIf (u1.1) (
    bIf ((hide (a.1 == b.1))) (
      bIf ((hide (a.2.1 == b.2.1))) (
        bIf ((hide (a.2.2.1 == b.2.2.1))) (
          bIf ((hide (a.2.2.2.1 == b.2.2.2.1))) (
            bIf ((hide (eqD (.arr 32 (.int .u8)) a.2.2.2.2.1 b.2.2.2.2.1))) (
              bIf ((hide (a.2.2.2.2.2.1 == b.2.2.2.2.2.1))) (
                some ((hide (eqD T_api_Lock a.2.2.2.2.2.2.1 b.2.2.2.2.2.2.1)), ())
                ) (
                some (false, ())
                )
              ) (
              some (false, ())
              )
            ) (
            some (false, ())
            )
          ) (
          some (false, ())
          )
        ) (
        some (false, ())
        )
      ) (
      some (false, ())
      )
    ) (
    some (false, ())
    ) := (hideF_eq _).trans (by kernel_rfl)
theorem phi (n : Nat) : ∀ e ∈ (X n).c.Φ, EntryOk Tryz.prog e := allE_cons (mkEntry_ok (F_tags_Same.ok n)) (allE_nil)
theorem ok (n : Nat) : FnOk Tryz.prog 166 ia io (fRun (X n) n T Tryz.f166 ia io) := tree_ok mixed tabIs (phi n) Tryz.func166 (by kernel_rfl) rfl
noncomputable def en (n : Nat) : Entry := mkEntry 166 ia io (fRun (X n) n T Tryz.f166 ia io)
end F_object_SameVersion
end Go.Proofs.YtdlkpmohjhjmfaaGreatDoor

namespace Go.Proofs.YtdlkpmohjhjmfaaGreatDoor
open Go Go.Va Go.Proofs
namespace F_ref13_SameVersion
abbrev ia : List Ai := [.dat T_api_Version, .dat T_api_Version]
abbrev io : List (Nat × Oi) := [(4, .dat .bool)]
abbrev R : Type := DOut ia io
noncomputable def X (n : Nat) : Ctx := ⟨⟨tab, [F_ref08_Same.en n], 0, []⟩, 57, bnOf 0 ia⟩
abbrev g1 : List Si := [.ref 2 2 T_api_Version, .ref 3 3 T_api_Version, .box 2 (.d T_api_Version), .box 3 (.d T_api_Version)]
noncomputable def T : CT := (.s .o (.s .o (.r g1 .o)))
noncomputable def J1 (n : Nat) : D_api_Version × D_api_Version × Unit → Option R := jR (X n) n T (bodyOf Tryz.f68) (endK ia io) g1 [1, 1] []
noncomputable def f (n : Nat) (a : D_api_Version) (b : D_api_Version) : Option R := fRun (X n) n T Tryz.f68 ia io (a, b, ())
theorem e0 (n : Nat) (a : D_api_Version) (b : D_api_Version) : f n a b =
  bIf ((hide (a.1 != b.1))) (
    some (false, ())
    ) (
    bIf ((hide (!(a.2.1 == b.2.1)))) (
      some (false, ())
      ) (
      bIf ((hide (a.2.2.1 != b.2.2.1))) (
        some (false, ())
        ) (
        bIf ((hide (a.2.2.2.1 != b.2.2.2.1))) (
          some (false, ())
          ) (
          bIf ((hide (a.2.2.2.2.2.1 != b.2.2.2.2.2.1))) (
            some (false, ())
            ) (
            bIf ((hide (!(eqD T_api_Lock a.2.2.2.2.2.2.1 b.2.2.2.2.2.2.1)))) (
              some (false, ())
              ) (
              J1 n (a, b, ())
              )
            )
          )
        )
      )
    ) := (hideF_eq _).trans (by kernel_rfl)
theorem e1 (n : Nat) (a : D_api_Version) (b : D_api_Version) : J1 n (a, b, ()) =
  bIf ((hide (eqD (.arr 32 (.int .u8)) a.2.2.2.2.1 b.2.2.2.2.1))) (
    bnd (F_ref08_Same.f n a.2.2.2.2.2.2.2.1 b.2.2.2.2.2.2.2.1) fun u1 =>
    some (u1.1, ())
    ) (
    some (false, ())
    ) := (hideF_eq _).trans (by kernel_rfl)
theorem phi (n : Nat) : ∀ e ∈ (X n).c.Φ, EntryOk Tryz.prog e := allE_cons (mkEntry_ok (F_ref08_Same.ok n)) (allE_nil)
theorem ok (n : Nat) : FnOk Tryz.prog 68 ia io (fRun (X n) n T Tryz.f68 ia io) := tree_ok mixed tabIs (phi n) Tryz.func68 (by kernel_rfl) rfl
noncomputable def en (n : Nat) : Entry := mkEntry 68 ia io (fRun (X n) n T Tryz.f68 ia io)
end F_ref13_SameVersion
end Go.Proofs.YtdlkpmohjhjmfaaGreatDoor

namespace Go.Proofs.YtdlkpmohjhjmfaaGreatDoor
open Go Go.Va Go.Proofs
namespace F_mode_Good
abbrev ia : List Ai := [.dat T_api_Default]
abbrev io : List (Nat × Oi) := [(2, .dat .bool)]
abbrev R : Type := DOut ia io
noncomputable def X (n : Nat) : Ctx := ⟨⟨tab, [], 0, []⟩, 21, bnOf 0 ia⟩
abbrev g1 : List Si := [.ref 1 1 T_api_Default, .dat 10 .bool, .box 1 (.d T_api_Default)]
noncomputable def T : CT := (.s .o (.s (.s .o (.b (.s .o (.c .o (.s .o (.r g1 .o)))))) .o))
noncomputable def J1 (n : Nat) : Bool × D_api_Default × Unit → Option R := jR (X n) n T (bodyOf Tryz.f181) (endK ia io) g1 [1, 0, 1, 0, 1, 1, 1] []
noncomputable def f (n : Nat) (d : D_api_Default) : Option R := fRun (X n) n T Tryz.f181 ia io (d, ())
theorem e0 (n : Nat) (d : D_api_Default) : f n d =
  bIf ((hide (d.1 == (0 : Int)))) (
    some ((hide (d.2.1 == (0 : Int))), ())
    ) (
    bIf ((hide (d.1 == (1 : Int)))) (
      J1 n (true, d, ())
      ) (
      J1 n ((hide (d.1 == (2 : Int))), d, ())
      )
    ) := (hideF_eq _).trans (by kernel_rfl)
theorem e1 (n : Nat) (t10 : Bool) (d : D_api_Default) : J1 n (t10, d, ()) =
  bIf (t10) (
    bIf ((hide (decide (d.2.1 ≥ (1 : Int))))) (
      some ((hide (decide (d.2.1 ≤ (36500 : Int)))), ())
      ) (
      some (false, ())
      )
    ) (
    some (false, ())
    ) := (hideF_eq _).trans (by kernel_rfl)
theorem phi (n : Nat) : ∀ e ∈ (X n).c.Φ, EntryOk Tryz.prog e := allE_nil
theorem ok (n : Nat) : FnOk Tryz.prog 181 ia io (fRun (X n) n T Tryz.f181 ia io) := tree_ok mixed tabIs (phi n) Tryz.func181 (by kernel_rfl) rfl
noncomputable def en (n : Nat) : Entry := mkEntry 181 ia io (fRun (X n) n T Tryz.f181 ia io)
end F_mode_Good
end Go.Proofs.YtdlkpmohjhjmfaaGreatDoor

namespace Go.Proofs.YtdlkpmohjhjmfaaGreatDoor
open Go Go.Va Go.Proofs
namespace F_glob_pieces
abbrev ia : List Ai := [.dat .str]
abbrev io : List (Nat × Oi) := [(2, .val (.r 0 T_glob_piece)), (3, .dat .bool)]
abbrev R : Type := DOut ia io
noncomputable def X (n : Nat) : Ctx := ⟨⟨tab, [], 0, []⟩, 46, bnOf 0 ia⟩
abbrev g1 : List Si := [.dat 0 .str, .val 4 (.r 200400 T_glob_piece), .dat 5 (.int .i64)]
abbrev g2 : List Si := [.dat 0 .str, .val 4 (.r 200400 T_glob_piece), .dat 5 (.int .i64)]
abbrev g3 : List Si := [.dat 0 .str, .val 4 (.r 200400 T_glob_piece), .dat 5 (.int .i64)]
abbrev g4 : List Si := [.val 4 (.r 200400 T_glob_piece)]
noncomputable def T : CT := (.s .o (.s .o (.s .o (.s (.s .o (.b (.l g1 (.s .o (.s (.b (.s .o (.b (.s .o (.r g2 .o))))) (.r g3 .o)))))) (.r g4 .o)))))
noncomputable def J1 (n : Nat) (m : Nat) : ByteArray × (List (D_glob_piece)) × Int × Unit → Option R := jL (X n) n T (bodyOf Tryz.f253) (endK ia io) g1 [1, 1, 1, 0, 1, 0] [] m
noncomputable def J2 (n m1 : Nat) : ByteArray × (List (D_glob_piece)) × Int × Unit → Option R := jR (X n) n T (bodyOf Tryz.f253) (endK ia io) g2 [1, 1, 1, 0, 1, 0, 0, 1, 0, 0, 1, 0, 1] [m1]
noncomputable def J3 (n m1 : Nat) : ByteArray × (List (D_glob_piece)) × Int × Unit → Option R := jR (X n) n T (bodyOf Tryz.f253) (endK ia io) g3 [1, 1, 1, 0, 1, 0, 0, 1, 1] [m1]
noncomputable def J4 (n : Nat) : (List (D_glob_piece)) × Unit → Option R := jR (X n) n T (bodyOf Tryz.f253) (endK ia io) g4 [1, 1, 1, 1] []
noncomputable def f (n : Nat) (p : ByteArray) : Option R := fRun (X n) n T Tryz.f253 ia io (p, ())
theorem e0 (n : Nat) (p : ByteArray) : f n p =
  bIf ((hide (decide ((p.size : Int) > (200 : Int))))) (
    some ([], false, ())
    ) (
    J1 n n (p, [], 0, ())
    ) := (hideF_eq _).trans (by kernel_rfl)
theorem e1 (n m : Nat) (p : ByteArray) (out : List (D_glob_piece)) (i : Int) : J1 n (m + 1) (p, out, i, ()) =
  bIf ((hide (decide (i < (p.size : Int))))) (
    gIf (0 ≤ i ∧ i < (p.size : Int)) (
      bIf ((hide ((bt p i) == (42 : Int)))) (
        gIf ((out.length + 1) * 16 ≤ 70368744177664) (
          J3 n m (p, (out ++ ([(2, (0, ()))] : List (D_glob_piece))), i, ())
          )
        ) (
        bIf ((hide ((bt p i) == (63 : Int)))) (
          gIf ((out.length + 1) * 16 ≤ 70368744177664) (
            J3 n m (p, (out ++ ([(1, (0, ()))] : List (D_glob_piece))), i, ())
            )
          ) (
          bIf ((hide ((bt p i) == (92 : Int)))) (
            bIf ((hide ((IntKind.i64.wrap (i + (1 : Int))) == (p.size : Int)))) (
              some ([], false, ())
              ) (
              J2 n m (p, out, (IntKind.i64.wrap (i + (1 : Int))), ())
              )
            ) (
            J2 n m (p, out, i, ())
            )
          )
        )
      )
    ) (
    J4 n (out, ())
    ) := (hideF_eq _).trans (by kernel_rfl)
theorem e2 (n m1 : Nat) (p : ByteArray) (out : List (D_glob_piece)) (i : Int) : J2 n m1 (p, out, i, ()) =
  gIf (0 ≤ i ∧ i < (p.size : Int)) (
    gIf ((out.length + 1) * 16 ≤ 70368744177664) (
      J3 n m1 (p, (out ++ ([(0, ((bt p i), ()))] : List (D_glob_piece))), i, ())
      )
    ) := (hideF_eq _).trans (by kernel_rfl)
theorem e3 (n m1 : Nat) (p : ByteArray) (out : List (D_glob_piece)) (i : Int) : J3 n m1 (p, out, i, ()) =
  J1 n m1 (p, out, (IntKind.i64.wrap (i + (1 : Int))), ()) := (hideF_eq _).trans (by kernel_rfl)
theorem e4 (n : Nat) (out : List (D_glob_piece)) : J4 n (out, ()) =
  some (out, true, ()) := (hideF_eq _).trans (by kernel_rfl)
theorem phi (n : Nat) : ∀ e ∈ (X n).c.Φ, EntryOk Tryz.prog e := allE_nil
theorem ok (n : Nat) : FnOk Tryz.prog 253 ia io (fRun (X n) n T Tryz.f253 ia io) := tree_ok mixed tabIs (phi n) Tryz.func253 (by kernel_rfl) rfl
noncomputable def en (n : Nat) : Entry := mkEntry 253 ia io (fRun (X n) n T Tryz.f253 ia io)
end F_glob_pieces
end Go.Proofs.YtdlkpmohjhjmfaaGreatDoor

namespace Go.Proofs.YtdlkpmohjhjmfaaGreatDoor
open Go Go.Va Go.Proofs
namespace F_glob_Sound
abbrev ia : List Ai := [.dat .str]
abbrev io : List (Nat × Oi) := [(2, .dat .bool)]
abbrev R : Type := DOut ia io
noncomputable def X (n : Nat) : Ctx := ⟨⟨tab, [F_glob_pieces.en n], 0, []⟩, 11, bnOf 0 ia⟩
noncomputable def T : CT := .o
noncomputable def f (n : Nat) (p : ByteArray) : Option R := fRun (X n) n T Tryz.f232 ia io (p, ())
theorem e0 (n : Nat) (p : ByteArray) : f n p =
  bnd (F_glob_pieces.f n p) fun u1 =>
  some (u1.2.1, ()) := (hideF_eq _).trans (by kernel_rfl)
theorem phi (n : Nat) : ∀ e ∈ (X n).c.Φ, EntryOk Tryz.prog e := allE_cons (mkEntry_ok (F_glob_pieces.ok n)) (allE_nil)
theorem ok (n : Nat) : FnOk Tryz.prog 232 ia io (fRun (X n) n T Tryz.f232 ia io) := tree_ok mixed tabIs (phi n) Tryz.func232 (by kernel_rfl) rfl
noncomputable def en (n : Nat) : Entry := mkEntry 232 ia io (fRun (X n) n T Tryz.f232 ia io)
end F_glob_Sound
end Go.Proofs.YtdlkpmohjhjmfaaGreatDoor

namespace Go.Proofs.YtdlkpmohjhjmfaaGreatDoor
open Go Go.Va Go.Proofs
namespace F_entry_Rule
abbrev ia : List Ai := [.dat T_api_Rule]
abbrev io : List (Nat × Oi) := [(2, .dat .bool)]
abbrev R : Type := DOut ia io
noncomputable def X (n : Nat) : Ctx := ⟨⟨tab, [F_label_Clean.en n, F_tags_Sound.en n], 0, []⟩, 37, bnOf 0 ia⟩
noncomputable def T : CT := .o
noncomputable def f (n : Nat) (r : D_api_Rule) : Option R := fRun (X n) n T Tryz.f229 ia io (r, ())
theorem e0 (n : Nat) (r : D_api_Rule) : f n r =
  bIf ((hide (decide ((r.1.size : Int) ≤ (200 : Int))))) (
    bnd (F_label_Clean.f n r.1) fun u1 =>
    bIf (u1.1) (
      bnd (F_tags_Sound.f n r.2.1) fun u2 =>
      bIf (u2.1) (
        bIf ((hide (decide (r.2.2.1 ≥ (0 : Int))))) (
          bIf ((hide (decide (r.2.2.1 ≤ (36500 : Int))))) (
            bIf ((hide (decide (r.2.2.2.1 ≥ (0 : Int))))) (
              some ((hide (decide (r.2.2.2.1 ≤ (36500 : Int)))), ())
              ) (
              some (false, ())
              )
            ) (
            some (false, ())
            )
          ) (
          some (false, ())
          )
        ) (
        some (false, ())
        )
      ) (
      some (false, ())
      )
    ) (
    some (false, ())
    ) := (hideF_eq _).trans (by kernel_rfl)
theorem phi (n : Nat) : ∀ e ∈ (X n).c.Φ, EntryOk Tryz.prog e := allE_cons (mkEntry_ok (F_label_Clean.ok n)) (allE_cons (mkEntry_ok (F_tags_Sound.ok n)) (allE_nil))
theorem ok (n : Nat) : FnOk Tryz.prog 229 ia io (fRun (X n) n T Tryz.f229 ia io) := tree_ok mixed tabIs (phi n) Tryz.func229 (by kernel_rfl) rfl
noncomputable def en (n : Nat) : Entry := mkEntry 229 ia io (fRun (X n) n T Tryz.f229 ia io)
end F_entry_Rule
end Go.Proofs.YtdlkpmohjhjmfaaGreatDoor

namespace Go.Proofs.YtdlkpmohjhjmfaaGreatDoor
open Go Go.Va Go.Proofs
namespace F_entry_Rules_1
abbrev ia : List Ai := [.dat T_api_Rule]
abbrev io : List (Nat × Oi) := [(2, .dat .bool)]
abbrev R : Type := DOut ia io
noncomputable def X (n : Nat) : Ctx := ⟨⟨tab, [F_entry_Rule.en n], 0, []⟩, 6, bnOf 0 ia⟩
noncomputable def T : CT := .o
noncomputable def f (n : Nat) (r : D_api_Rule) : Option R := fRun (X n) n T Tryz.f228 ia io (r, ())
theorem e0 (n : Nat) (r : D_api_Rule) : f n r =
  bnd (F_entry_Rule.f n r) fun u1 =>
  some ((!u1.1), ()) := (hideF_eq _).trans (by kernel_rfl)
theorem phi (n : Nat) : ∀ e ∈ (X n).c.Φ, EntryOk Tryz.prog e := allE_cons (mkEntry_ok (F_entry_Rule.ok n)) (allE_nil)
theorem ok (n : Nat) : FnOk Tryz.prog 228 ia io (fRun (X n) n T Tryz.f228 ia io) := tree_ok mixed tabIs (phi n) Tryz.func228 (by kernel_rfl) rfl
noncomputable def en (n : Nat) : Entry := mkEntry 228 ia io (fRun (X n) n T Tryz.f228 ia io)
end F_entry_Rules_1
end Go.Proofs.YtdlkpmohjhjmfaaGreatDoor

namespace Go.Proofs.YtdlkpmohjhjmfaaGreatDoor
open Go Go.Va Go.Proofs
namespace F_slices_IndexFunc_Rule
abbrev ia : List Ai := [.dat (.slice T_api_Rule), .fn (.fn 228) []]
abbrev io : List (Nat × Oi) := [(4, .dat (.int .i64))]
abbrev R : Type := DOut ia io
noncomputable def X (n : Nat) : Ctx := ⟨⟨tab, [F_entry_Rules_1.en n], 0, []⟩, 19, bnOf 0 ia⟩
abbrev g1 : List Si := [.dat 0 (.slice T_api_Rule), .clo 1 (.fn 228) [], .dat 7 (.int .i64), .dat 8 (.int .i64)]
abbrev g2 : List Si := []
noncomputable def T : CT := (.s .o (.s (.s .o (.b (.l g1 .o))) (.r g2 .o)))
noncomputable def J1 (n : Nat) (m : Nat) : (List (D_api_Rule)) × Int × Int × Unit → Option R := jL (X n) n T (bodyOf Tryz.f251) (endK ia io) g1 [1, 0, 1, 0] [] m
noncomputable def J2 (n : Nat) : Unit → Option R := jR (X n) n T (bodyOf Tryz.f251) (endK ia io) g2 [1, 1] []
noncomputable def f (n : Nat) (s_ : List (D_api_Rule)) : Option R := fRun (X n) n T Tryz.f251 ia io (s_, ())
theorem e0 (n : Nat) (s_ : List (D_api_Rule)) : f n s_ =
  J1 n n (s_, ((s_.length : Nat) : Int), 0, ()) := (hideF_eq _).trans (by kernel_rfl)
theorem e1 (n m : Nat) (s_ : List (D_api_Rule)) (t7 : Int) (t8 : Int) : J1 n (m + 1) (s_, t7, t8, ()) =
  bIf ((hide (decide (t8 < t7)))) (
    gIf (0 ≤ t8 ∧ t8 < ((s_.length : Nat) : Int)) (
      bnd (F_entry_Rules_1.f n (List.getD s_ t8.toNat (Va.dflt T_api_Rule))) fun u1 =>
      bIf (u1.1) (
        some (t8, ())
        ) (
        J1 n m (s_, t7, (IntKind.i64.wrap (t8 + (1 : Int))), ())
        )
      )
    ) (
    J2 n (())
    ) := (hideF_eq _).trans (by kernel_rfl)
theorem e2 (n : Nat) : J2 n (()) =
  some ((-1), ()) := (hideF_eq _).trans (by kernel_rfl)
theorem phi (n : Nat) : ∀ e ∈ (X n).c.Φ, EntryOk Tryz.prog e := allE_cons (mkEntry_ok (F_entry_Rules_1.ok n)) (allE_nil)
theorem ok (n : Nat) : FnOk Tryz.prog 251 ia io (fRun (X n) n T Tryz.f251 ia io) := tree_ok mixed tabIs (phi n) Tryz.func251 (by kernel_rfl) rfl
noncomputable def en (n : Nat) : Entry := mkEntry 251 ia io (fRun (X n) n T Tryz.f251 ia io)
end F_slices_IndexFunc_Rule
end Go.Proofs.YtdlkpmohjhjmfaaGreatDoor

namespace Go.Proofs.YtdlkpmohjhjmfaaGreatDoor
open Go Go.Va Go.Proofs
namespace F_slices_ContainsFunc_Rule
abbrev ia : List Ai := [.dat (.slice T_api_Rule), .fn (.fn 228) []]
abbrev io : List (Nat × Oi) := [(4, .dat .bool)]
abbrev R : Type := DOut ia io
noncomputable def X (n : Nat) : Ctx := ⟨⟨tab, [F_slices_IndexFunc_Rule.en n], 0, []⟩, 9, bnOf 0 ia⟩
noncomputable def T : CT := .o
noncomputable def f (n : Nat) (s_ : List (D_api_Rule)) : Option R := fRun (X n) n T Tryz.f227 ia io (s_, ())
theorem e0 (n : Nat) (s_ : List (D_api_Rule)) : f n s_ =
  bnd (F_slices_IndexFunc_Rule.f n s_) fun u1 =>
  some ((hide (decide (u1.1 ≥ (0 : Int)))), ()) := (hideF_eq _).trans (by kernel_rfl)
theorem phi (n : Nat) : ∀ e ∈ (X n).c.Φ, EntryOk Tryz.prog e := allE_cons (mkEntry_ok (F_slices_IndexFunc_Rule.ok n)) (allE_nil)
theorem ok (n : Nat) : FnOk Tryz.prog 227 ia io (fRun (X n) n T Tryz.f227 ia io) := tree_ok mixed tabIs (phi n) Tryz.func227 (by kernel_rfl) rfl
noncomputable def en (n : Nat) : Entry := mkEntry 227 ia io (fRun (X n) n T Tryz.f227 ia io)
end F_slices_ContainsFunc_Rule
end Go.Proofs.YtdlkpmohjhjmfaaGreatDoor

namespace Go.Proofs.YtdlkpmohjhjmfaaGreatDoor
open Go Go.Va Go.Proofs
namespace F_entry_Rules
abbrev ia : List Ai := [.dat (.slice T_api_Rule)]
abbrev io : List (Nat × Oi) := [(2, .dat .bool)]
abbrev R : Type := DOut ia io
noncomputable def X (n : Nat) : Ctx := ⟨⟨tab, [F_slices_ContainsFunc_Rule.en n], 0, []⟩, 11, bnOf 0 ia⟩
noncomputable def T : CT := .o
noncomputable def f (n : Nat) (list : List (D_api_Rule)) : Option R := fRun (X n) n T Tryz.f182 ia io (list, ())
theorem e0 (n : Nat) (list : List (D_api_Rule)) : f n list =
  bIf ((hide (decide (((list.length : Nat) : Int) ≤ (8 : Int))))) (
    bnd (F_slices_ContainsFunc_Rule.f n list) fun u1 =>
    some ((!u1.1), ())
    ) (
    some (false, ())
    ) := (hideF_eq _).trans (by kernel_rfl)
theorem phi (n : Nat) : ∀ e ∈ (X n).c.Φ, EntryOk Tryz.prog e := allE_cons (mkEntry_ok (F_slices_ContainsFunc_Rule.ok n)) (allE_nil)
theorem ok (n : Nat) : FnOk Tryz.prog 182 ia io (fRun (X n) n T Tryz.f182 ia io) := tree_ok mixed tabIs (phi n) Tryz.func182 (by kernel_rfl) rfl
noncomputable def en (n : Nat) : Entry := mkEntry 182 ia io (fRun (X n) n T Tryz.f182 ia io)
end F_entry_Rules
end Go.Proofs.YtdlkpmohjhjmfaaGreatDoor

namespace Go.Proofs.YtdlkpmohjhjmfaaGreatDoor
open Go Go.Va Go.Proofs
namespace F_entry_Grants_1
abbrev ia : List Ai := [.dat T_api_Grant]
abbrev io : List (Nat × Oi) := [(2, .dat .bool)]
abbrev R : Type := DOut ia io
noncomputable def X (n : Nat) : Ctx := ⟨⟨tab, [F_glob_Sound.en n], 0, []⟩, 19, bnOf 0 ia⟩
noncomputable def T : CT := .o
noncomputable def f (n : Nat) (g : D_api_Grant) : Option R := fRun (X n) n T Tryz.f231 ia io (g, ())
theorem e0 (n : Nat) (g : D_api_Grant) : f n g =
  bnd (F_glob_Sound.f n g.2.1) fun u1 =>
  bIf ((!u1.1)) (
    some (true, ())
    ) (
    bnd (F_glob_Sound.f n g.2.2.1) fun u2 =>
    bIf ((!u2.1)) (
      some (true, ())
      ) (
      bnd (F_glob_Sound.f n g.2.2.2.1) fun u3 =>
      some ((!u3.1), ())
      )
    ) := (hideF_eq _).trans (by kernel_rfl)
theorem phi (n : Nat) : ∀ e ∈ (X n).c.Φ, EntryOk Tryz.prog e := allE_cons (mkEntry_ok (F_glob_Sound.ok n)) (allE_nil)
theorem ok (n : Nat) : FnOk Tryz.prog 231 ia io (fRun (X n) n T Tryz.f231 ia io) := tree_ok mixed tabIs (phi n) Tryz.func231 (by kernel_rfl) rfl
noncomputable def en (n : Nat) : Entry := mkEntry 231 ia io (fRun (X n) n T Tryz.f231 ia io)
end F_entry_Grants_1
end Go.Proofs.YtdlkpmohjhjmfaaGreatDoor

namespace Go.Proofs.YtdlkpmohjhjmfaaGreatDoor
open Go Go.Va Go.Proofs
namespace F_slices_IndexFunc_Grant
abbrev ia : List Ai := [.dat (.slice T_api_Grant), .fn (.fn 231) []]
abbrev io : List (Nat × Oi) := [(4, .dat (.int .i64))]
abbrev R : Type := DOut ia io
noncomputable def X (n : Nat) : Ctx := ⟨⟨tab, [F_entry_Grants_1.en n], 0, []⟩, 19, bnOf 0 ia⟩
abbrev g1 : List Si := [.dat 0 (.slice T_api_Grant), .clo 1 (.fn 231) [], .dat 7 (.int .i64), .dat 8 (.int .i64)]
abbrev g2 : List Si := []
noncomputable def T : CT := (.s .o (.s (.s .o (.b (.l g1 .o))) (.r g2 .o)))
noncomputable def J1 (n : Nat) (m : Nat) : (List (D_api_Grant)) × Int × Int × Unit → Option R := jL (X n) n T (bodyOf Tryz.f252) (endK ia io) g1 [1, 0, 1, 0] [] m
noncomputable def J2 (n : Nat) : Unit → Option R := jR (X n) n T (bodyOf Tryz.f252) (endK ia io) g2 [1, 1] []
noncomputable def f (n : Nat) (s_ : List (D_api_Grant)) : Option R := fRun (X n) n T Tryz.f252 ia io (s_, ())
theorem e0 (n : Nat) (s_ : List (D_api_Grant)) : f n s_ =
  J1 n n (s_, ((s_.length : Nat) : Int), 0, ()) := (hideF_eq _).trans (by kernel_rfl)
theorem e1 (n m : Nat) (s_ : List (D_api_Grant)) (t7 : Int) (t8 : Int) : J1 n (m + 1) (s_, t7, t8, ()) =
  bIf ((hide (decide (t8 < t7)))) (
    gIf (0 ≤ t8 ∧ t8 < ((s_.length : Nat) : Int)) (
      bnd (F_entry_Grants_1.f n (List.getD s_ t8.toNat (Va.dflt T_api_Grant))) fun u1 =>
      bIf (u1.1) (
        some (t8, ())
        ) (
        J1 n m (s_, t7, (IntKind.i64.wrap (t8 + (1 : Int))), ())
        )
      )
    ) (
    J2 n (())
    ) := (hideF_eq _).trans (by kernel_rfl)
theorem e2 (n : Nat) : J2 n (()) =
  some ((-1), ()) := (hideF_eq _).trans (by kernel_rfl)
theorem phi (n : Nat) : ∀ e ∈ (X n).c.Φ, EntryOk Tryz.prog e := allE_cons (mkEntry_ok (F_entry_Grants_1.ok n)) (allE_nil)
theorem ok (n : Nat) : FnOk Tryz.prog 252 ia io (fRun (X n) n T Tryz.f252 ia io) := tree_ok mixed tabIs (phi n) Tryz.func252 (by kernel_rfl) rfl
noncomputable def en (n : Nat) : Entry := mkEntry 252 ia io (fRun (X n) n T Tryz.f252 ia io)
end F_slices_IndexFunc_Grant
end Go.Proofs.YtdlkpmohjhjmfaaGreatDoor

namespace Go.Proofs.YtdlkpmohjhjmfaaGreatDoor
open Go Go.Va Go.Proofs
namespace F_slices_ContainsFunc_Grant
abbrev ia : List Ai := [.dat (.slice T_api_Grant), .fn (.fn 231) []]
abbrev io : List (Nat × Oi) := [(4, .dat .bool)]
abbrev R : Type := DOut ia io
noncomputable def X (n : Nat) : Ctx := ⟨⟨tab, [F_slices_IndexFunc_Grant.en n], 0, []⟩, 9, bnOf 0 ia⟩
noncomputable def T : CT := .o
noncomputable def f (n : Nat) (s_ : List (D_api_Grant)) : Option R := fRun (X n) n T Tryz.f230 ia io (s_, ())
theorem e0 (n : Nat) (s_ : List (D_api_Grant)) : f n s_ =
  bnd (F_slices_IndexFunc_Grant.f n s_) fun u1 =>
  some ((hide (decide (u1.1 ≥ (0 : Int)))), ()) := (hideF_eq _).trans (by kernel_rfl)
theorem phi (n : Nat) : ∀ e ∈ (X n).c.Φ, EntryOk Tryz.prog e := allE_cons (mkEntry_ok (F_slices_IndexFunc_Grant.ok n)) (allE_nil)
theorem ok (n : Nat) : FnOk Tryz.prog 230 ia io (fRun (X n) n T Tryz.f230 ia io) := tree_ok mixed tabIs (phi n) Tryz.func230 (by kernel_rfl) rfl
noncomputable def en (n : Nat) : Entry := mkEntry 230 ia io (fRun (X n) n T Tryz.f230 ia io)
end F_slices_ContainsFunc_Grant
end Go.Proofs.YtdlkpmohjhjmfaaGreatDoor

namespace Go.Proofs.YtdlkpmohjhjmfaaGreatDoor
open Go Go.Va Go.Proofs
namespace F_entry_Grants
abbrev ia : List Ai := [.dat (.slice T_api_Grant)]
abbrev io : List (Nat × Oi) := [(2, .dat .bool)]
abbrev R : Type := DOut ia io
noncomputable def X (n : Nat) : Ctx := ⟨⟨tab, [F_slices_ContainsFunc_Grant.en n], 0, []⟩, 11, bnOf 0 ia⟩
noncomputable def T : CT := .o
noncomputable def f (n : Nat) (list : List (D_api_Grant)) : Option R := fRun (X n) n T Tryz.f183 ia io (list, ())
theorem e0 (n : Nat) (list : List (D_api_Grant)) : f n list =
  bIf ((hide (decide (((list.length : Nat) : Int) ≤ (8 : Int))))) (
    bnd (F_slices_ContainsFunc_Grant.f n list) fun u1 =>
    some ((!u1.1), ())
    ) (
    some (false, ())
    ) := (hideF_eq _).trans (by kernel_rfl)
theorem phi (n : Nat) : ∀ e ∈ (X n).c.Φ, EntryOk Tryz.prog e := allE_cons (mkEntry_ok (F_slices_ContainsFunc_Grant.ok n)) (allE_nil)
theorem ok (n : Nat) : FnOk Tryz.prog 183 ia io (fRun (X n) n T Tryz.f183 ia io) := tree_ok mixed tabIs (phi n) Tryz.func183 (by kernel_rfl) rfl
noncomputable def en (n : Nat) : Entry := mkEntry 183 ia io (fRun (X n) n T Tryz.f183 ia io)
end F_entry_Grants
end Go.Proofs.YtdlkpmohjhjmfaaGreatDoor

namespace Go.Proofs.YtdlkpmohjhjmfaaGreatDoor
open Go Go.Va Go.Proofs
namespace F_label_address
abbrev ia : List Ai := [.dat .str]
abbrev io : List (Nat × Oi) := [(2, .dat .bool)]
abbrev R : Type := DOut ia io
noncomputable def X (n : Nat) : Ctx := ⟨⟨tab, [F_strings_Split.en, F_strings_Trim.en], 0, []⟩, 30, bnOf 0 ia⟩
abbrev g1 : List Si := [.val 11 (.r 201100 .str), .dat 12 (.int .i64), .dat 13 (.int .i64)]
abbrev g2 : List Si := []
noncomputable def T : CT := (.s .o (.s .o (.s .o (.s (.s .o (.b (.l g1 .o))) (.r g2 .o)))))
noncomputable def J1 (n : Nat) (m : Nat) : (List (ByteArray)) × Int × Int × Unit → Option R := jL (X n) n T (bodyOf Tryz.f178) (endK ia io) g1 [1, 1, 1, 0, 1, 0] [] m
noncomputable def J2 (n : Nat) : Unit → Option R := jR (X n) n T (bodyOf Tryz.f178) (endK ia io) g2 [1, 1, 1, 1] []
noncomputable def f (n : Nat) (s_ : ByteArray) : Option R := fRun (X n) n T Tryz.f178 ia io (s_, ())
theorem e0 (n : Nat) (s_ : ByteArray) : f n s_ =
  bnd (F_strings_Split.f s_ (⟨#[46]⟩ : ByteArray)) fun u1 =>
  bIf ((hide (((u1.1.length : Nat) : Int) != (4 : Int)))) (
    some (false, ())
    ) (
    J1 n n (u1.1, ((u1.1.length : Nat) : Int), 0, ())
    ) := (hideF_eq _).trans (by kernel_rfl)
theorem e1 (n m : Nat) (t11 : List (ByteArray)) (t12 : Int) (t13 : Int) : J1 n (m + 1) (t11, t12, t13, ()) =
  bIf ((hide (decide (t13 < t12)))) (
    gIf (0 ≤ t13 ∧ t13 < ((t11.length : Nat) : Int)) (
      bIf ((hide (eqS (List.getD t11 (0 + t13.toNat) (⟨#[]⟩ : ByteArray)) (⟨#[]⟩ : ByteArray)))) (
        some (false, ())
        ) (
        bIf ((hide (decide (((List.getD t11 (0 + t13.toNat) (⟨#[]⟩ : ByteArray)).size : Int) > (3 : Int))))) (
          some (false, ())
          ) (
          bnd (F_strings_Trim.f (List.getD t11 (0 + t13.toNat) (⟨#[]⟩ : ByteArray)) (⟨#[48, 49, 50, 51, 52, 53, 54, 55, 56, 57]⟩ : ByteArray)) fun u1 =>
          bIf ((hide (!eqS u1.1 (⟨#[]⟩ : ByteArray)))) (
            some (false, ())
            ) (
            J1 n m (t11, t12, (IntKind.i64.wrap (t13 + (1 : Int))), ())
            )
          )
        )
      )
    ) (
    J2 n (())
    ) := (hideF_eq _).trans (by kernel_rfl)
theorem e2 (n : Nat) : J2 n (()) =
  some (true, ()) := (hideF_eq _).trans (by kernel_rfl)
theorem phi (n : Nat) : ∀ e ∈ (X n).c.Φ, EntryOk Tryz.prog e := allE_cons (mkEntry_ok (F_strings_Split.ok)) (allE_cons (mkEntry_ok (F_strings_Trim.ok)) (allE_nil))
theorem ok (n : Nat) : FnOk Tryz.prog 178 ia io (fRun (X n) n T Tryz.f178 ia io) := tree_ok mixed tabIs (phi n) Tryz.func178 (by kernel_rfl) rfl
noncomputable def en (n : Nat) : Entry := mkEntry 178 ia io (fRun (X n) n T Tryz.f178 ia io)
end F_label_address
end Go.Proofs.YtdlkpmohjhjmfaaGreatDoor

namespace Go.Proofs.YtdlkpmohjhjmfaaGreatDoor
open Go Go.Va Go.Proofs
namespace F_label_among
abbrev ia : List Ai := [.dat .str, .dat (.int .u8)]
abbrev io : List (Nat × Oi) := [(4, .dat .bool)]
abbrev R : Type := DOut ia io
noncomputable def X (n : Nat) : Ctx := ⟨⟨tab, [F_strings_IndexByte.en], 0, []⟩, 9, bnOf 0 ia⟩
noncomputable def T : CT := .o
noncomputable def f (n : Nat) (some_ : ByteArray) (b : Int) : Option R := fRun (X n) n T Tryz.f179 ia io (some_, b, ())
theorem e0 (n : Nat) (some_ : ByteArray) (b : Int) : f n some_ b =
  bnd (F_strings_IndexByte.f some_ b) fun u1 =>
  some ((hide (decide (u1.1 ≥ (0 : Int)))), ()) := (hideF_eq _).trans (by kernel_rfl)
theorem phi (n : Nat) : ∀ e ∈ (X n).c.Φ, EntryOk Tryz.prog e := allE_cons (mkEntry_ok (F_strings_IndexByte.ok)) (allE_nil)
theorem ok (n : Nat) : FnOk Tryz.prog 179 ia io (fRun (X n) n T Tryz.f179 ia io) := tree_ok mixed tabIs (phi n) Tryz.func179 (by kernel_rfl) rfl
noncomputable def en (n : Nat) : Entry := mkEntry 179 ia io (fRun (X n) n T Tryz.f179 ia io)
end F_label_among
end Go.Proofs.YtdlkpmohjhjmfaaGreatDoor

namespace Go.Proofs.YtdlkpmohjhjmfaaGreatDoor
open Go Go.Va Go.Proofs
namespace F_label_Bucket
abbrev ia : List Ai := [.dat .str]
abbrev io : List (Nat × Oi) := [(2, .dat .bool)]
abbrev R : Type := DOut ia io
noncomputable def X (n : Nat) : Ctx := ⟨⟨tab, [F_label_address.en n, F_label_among.en n], 0, []⟩, 68, bnOf 0 ia⟩
abbrev g1 : List Si := [.dat 0 .str]
abbrev g2 : List Si := [.dat 0 .str, .dat 18 (.int .i64), .dat 19 (.int .i64)]
abbrev g3 : List Si := [.dat 0 .str, .dat 3 (.int .i64), .dat 18 (.int .i64), .dat 19 (.int .i64)]
abbrev g4 : List Si := []
noncomputable def T : CT := (.s .o (.s .o (.r g1 (.s (.s .o (.b (.l g2 (.s .o (.s .o (.s (.b (.s .o (.s .o (.s .o (.r g3 .o))))) .o)))))) (.r g4 .o)))))
noncomputable def J1 (n : Nat) : ByteArray × Unit → Option R := jR (X n) n T (bodyOf Tryz.f131) (endK ia io) g1 [1, 1] []
noncomputable def J2 (n : Nat) (m : Nat) : ByteArray × Int × Int × Unit → Option R := jL (X n) n T (bodyOf Tryz.f131) (endK ia io) g2 [1, 1, 0, 1, 0] [] m
noncomputable def J3 (n m2 : Nat) : ByteArray × Int × Int × Int × Unit → Option R := jR (X n) n T (bodyOf Tryz.f131) (endK ia io) g3 [1, 1, 0, 1, 0, 0, 1, 1, 0, 0, 1, 1, 1] [m2]
noncomputable def J4 (n : Nat) : Unit → Option R := jR (X n) n T (bodyOf Tryz.f131) (endK ia io) g4 [1, 1, 1] []
noncomputable def f (n : Nat) (s_ : ByteArray) : Option R := fRun (X n) n T Tryz.f131 ia io (s_, ())
theorem e0 (n : Nat) (s_ : ByteArray) : f n s_ =
  bIf ((hide (decide ((s_.size : Int) < (3 : Int))))) (
    some (false, ())
    ) (
    bIf ((hide (decide ((s_.size : Int) > (63 : Int))))) (
      some (false, ())
      ) (
      bnd (F_label_address.f n s_) fun u1 =>
      bIf (u1.1) (
        some (false, ())
        ) (
        J1 n (s_, ())
        )
      )
    ) := (hideF_eq _).trans (by kernel_rfl)
theorem e1 (n : Nat) (s_ : ByteArray) : J1 n (s_, ()) =
  J2 n n (s_, (s_.size : Int), 0, ()) := (hideF_eq _).trans (by kernel_rfl)
theorem e2 (n m : Nat) (s_ : ByteArray) (t18 : Int) (t19 : Int) : J2 n (m + 1) (s_, t18, t19, ()) =
  bIf ((hide (decide (t19 < t18)))) (
    gIf (0 ≤ t19 ∧ t19 < (s_.size : Int)) (
      bnd (F_label_among.f n (⟨#[97, 98, 99, 100, 101, 102, 103, 104, 105, 106, 107, 108, 109, 110, 111, 112, 113, 114, 115, 116, 117, 118, 119, 120, 121, 122, 48, 49, 50, 51, 52, 53, 54, 55, 56, 57]⟩ : ByteArray) (bt s_ t19)) fun u1 =>
      bIf (u1.1) (
        J2 n m (s_, t18, (IntKind.i64.wrap (t19 + (1 : Int))), ())
        ) (
        gIf (0 ≤ t19 ∧ t19 < (s_.size : Int)) (
          bIf ((hide ((bt s_ t19) != (45 : Int)))) (
            gIf (0 ≤ t19 ∧ t19 < (s_.size : Int)) (
              bIf ((hide ((bt s_ t19) != (46 : Int)))) (
                some (false, ())
                ) (
                bIf ((hide (t19 == (0 : Int)))) (
                  some (false, ())
                  ) (
                  bIf ((hide (t19 == (IntKind.i64.wrap ((s_.size : Int) - (1 : Int)))))) (
                    some (false, ())
                    ) (
                    J3 n m (s_, t19, t18, t19, ())
                    )
                  )
                )
              )
            ) (
            bIf ((hide (t19 == (0 : Int)))) (
              some (false, ())
              ) (
              bIf ((hide (t19 == (IntKind.i64.wrap ((s_.size : Int) - (1 : Int)))))) (
                some (false, ())
                ) (
                J3 n m (s_, t19, t18, t19, ())
                )
              )
            )
          )
        )
      )
    ) (
    J4 n (())
    ) := (hideF_eq _).trans (by kernel_rfl)
theorem e3 (n m2 : Nat) (s_ : ByteArray) (i : Int) (t18 : Int) (t19 : Int) : J3 n m2 (s_, i, t18, t19, ()) =
  gIf (0 ≤ (IntKind.i64.wrap (i + (1 : Int))) ∧ (IntKind.i64.wrap (i + (1 : Int))) < (s_.size : Int)) (
    bIf ((hide ((bt s_ (IntKind.i64.wrap (i + (1 : Int)))) == (46 : Int)))) (
      gIf (0 ≤ i ∧ i < (s_.size : Int)) (
        bIf ((hide ((bt s_ i) == (46 : Int)))) (
          some (false, ())
          ) (
          bIf ((hide ((bt s_ (IntKind.i64.wrap (i + (1 : Int)))) == (46 : Int)))) (
            some (false, ())
            ) (
            J2 n m2 (s_, t18, (IntKind.i64.wrap (t19 + (1 : Int))), ())
            )
          )
        )
      ) (
      bIf ((hide ((bt s_ (IntKind.i64.wrap (i + (1 : Int)))) == (45 : Int)))) (
        gIf (0 ≤ i ∧ i < (s_.size : Int)) (
          bIf ((hide ((bt s_ i) == (46 : Int)))) (
            some (false, ())
            ) (
            bIf ((hide ((bt s_ (IntKind.i64.wrap (i + (1 : Int)))) == (46 : Int)))) (
              some (false, ())
              ) (
              J2 n m2 (s_, t18, (IntKind.i64.wrap (t19 + (1 : Int))), ())
              )
            )
          )
        ) (
        J2 n m2 (s_, t18, (IntKind.i64.wrap (t19 + (1 : Int))), ())
        )
      )
    ) := (hideF_eq _).trans (by kernel_rfl)
theorem e4 (n : Nat) : J4 n (()) =
  some (true, ()) := (hideF_eq _).trans (by kernel_rfl)
theorem phi (n : Nat) : ∀ e ∈ (X n).c.Φ, EntryOk Tryz.prog e := allE_cons (mkEntry_ok (F_label_address.ok n)) (allE_cons (mkEntry_ok (F_label_among.ok n)) (allE_nil))
theorem ok (n : Nat) : FnOk Tryz.prog 131 ia io (fRun (X n) n T Tryz.f131 ia io) := tree_ok mixed tabIs (phi n) Tryz.func131 (by kernel_rfl) rfl
noncomputable def en (n : Nat) : Entry := mkEntry 131 ia io (fRun (X n) n T Tryz.f131 ia io)
end F_label_Bucket
end Go.Proofs.YtdlkpmohjhjmfaaGreatDoor

namespace Go.Proofs.YtdlkpmohjhjmfaaGreatDoor
open Go Go.Va Go.Proofs
namespace F_entry_sameRule
abbrev ia : List Ai := [.dat T_api_Rule, .dat T_api_Rule]
abbrev io : List (Nat × Oi) := [(4, .dat .bool)]
abbrev R : Type := DOut ia io
noncomputable def X (n : Nat) : Ctx := ⟨⟨tab, [F_tags_Same.en n], 0, []⟩, 38, bnOf 0 ia⟩
noncomputable def T : CT := .o
noncomputable def f (n : Nat) (a : D_api_Rule) (b : D_api_Rule) : Option R := fRun (X n) n T Tryz.f196 ia io (a, b, ())
theorem e0 (n : Nat) (a : D_api_Rule) (b : D_api_Rule) : f n a b =
  bIf ((hide (eqS a.1 b.1))) (
    bIf ((hide (a.2.2.1 == b.2.2.1))) (
      bIf ((hide (a.2.2.2.1 == b.2.2.2.1))) (
        bIf ((hide (a.2.2.2.2.1 == b.2.2.2.2.1))) (
          bnd (F_tags_Same.f n a.2.1 b.2.1) fun u1 =>
          some (u1.1, ())
          ) (
          some (false, ())
          )
        ) (
        some (false, ())
        )
      ) (
      some (false, ())
      )
    ) (
    some (false, ())
    ) := (hideF_eq _).trans (by kernel_rfl)
theorem phi (n : Nat) : ∀ e ∈ (X n).c.Φ, EntryOk Tryz.prog e := allE_cons (mkEntry_ok (F_tags_Same.ok n)) (allE_nil)
theorem ok (n : Nat) : FnOk Tryz.prog 196 ia io (fRun (X n) n T Tryz.f196 ia io) := tree_ok mixed tabIs (phi n) Tryz.func196 (by kernel_rfl) rfl
noncomputable def en (n : Nat) : Entry := mkEntry 196 ia io (fRun (X n) n T Tryz.f196 ia io)
end F_entry_sameRule
end Go.Proofs.YtdlkpmohjhjmfaaGreatDoor

namespace Go.Proofs.YtdlkpmohjhjmfaaGreatDoor
open Go Go.Va Go.Proofs
namespace F_slices_EqualFunc_Rule
abbrev ia : List Ai := [.dat (.slice T_api_Rule), .dat (.slice T_api_Rule), .fn (.fn 196) []]
abbrev io : List (Nat × Oi) := [(6, .dat .bool)]
abbrev R : Type := DOut ia io
noncomputable def X (n : Nat) : Ctx := ⟨⟨tab, [F_entry_sameRule.en n], 0, []⟩, 32, bnOf 0 ia⟩
abbrev g1 : List Si := [.dat 1 (.slice T_api_Rule), .clo 2 (.fn 196) [], .dat 15 (.slice T_api_Rule), .dat 16 (.int .i64), .dat 17 (.int .i64)]
abbrev g2 : List Si := []
noncomputable def T : CT := (.s .o (.s .o (.s (.s .o (.b (.l g1 .o))) (.r g2 .o))))
noncomputable def J1 (n : Nat) (m : Nat) : (List (D_api_Rule)) × (List (D_api_Rule)) × Int × Int × Unit → Option R := jL (X n) n T (bodyOf Tryz.f195) (endK ia io) g1 [1, 1, 0, 1, 0] [] m
noncomputable def J2 (n : Nat) : Unit → Option R := jR (X n) n T (bodyOf Tryz.f195) (endK ia io) g2 [1, 1, 1] []
noncomputable def f (n : Nat) (s1 : List (D_api_Rule)) (s2 : List (D_api_Rule)) : Option R := fRun (X n) n T Tryz.f195 ia io (s1, s2, ())
theorem e0 (n : Nat) (s1 : List (D_api_Rule)) (s2 : List (D_api_Rule)) : f n s1 s2 =
  bIf ((hide (((s1.length : Nat) : Int) != ((s2.length : Nat) : Int)))) (
    some (false, ())
    ) (
    J1 n n (s2, s1, ((s1.length : Nat) : Int), 0, ())
    ) := (hideF_eq _).trans (by kernel_rfl)
theorem e1 (n m : Nat) (s2 : List (D_api_Rule)) (t15 : List (D_api_Rule)) (t16 : Int) (t17 : Int) : J1 n (m + 1) (s2, t15, t16, t17, ()) =
  bIf ((hide (decide (t17 < t16)))) (
    gIf (0 ≤ t17 ∧ t17 < ((t15.length : Nat) : Int)) (
      gIf (0 ≤ t17 ∧ t17 < ((s2.length : Nat) : Int)) (
        bnd (F_entry_sameRule.f n (List.getD t15 t17.toNat (Va.dflt T_api_Rule)) (List.getD s2 t17.toNat (Va.dflt T_api_Rule))) fun u1 =>
        bIf ((!u1.1)) (
          some (false, ())
          ) (
          J1 n m (s2, t15, t16, (IntKind.i64.wrap (t17 + (1 : Int))), ())
          )
        )
      )
    ) (
    J2 n (())
    ) := (hideF_eq _).trans (by kernel_rfl)
theorem e2 (n : Nat) : J2 n (()) =
  some (true, ()) := (hideF_eq _).trans (by kernel_rfl)
theorem phi (n : Nat) : ∀ e ∈ (X n).c.Φ, EntryOk Tryz.prog e := allE_cons (mkEntry_ok (F_entry_sameRule.ok n)) (allE_nil)
theorem ok (n : Nat) : FnOk Tryz.prog 195 ia io (fRun (X n) n T Tryz.f195 ia io) := tree_ok mixed tabIs (phi n) Tryz.func195 (by kernel_rfl) rfl
noncomputable def en (n : Nat) : Entry := mkEntry 195 ia io (fRun (X n) n T Tryz.f195 ia io)
end F_slices_EqualFunc_Rule
end Go.Proofs.YtdlkpmohjhjmfaaGreatDoor

namespace Go.Proofs.YtdlkpmohjhjmfaaGreatDoor
open Go Go.Va Go.Proofs
namespace F_entry_SameRules
abbrev ia : List Ai := [.dat (.slice T_api_Rule), .dat (.slice T_api_Rule)]
abbrev io : List (Nat × Oi) := [(4, .dat .bool)]
abbrev R : Type := DOut ia io
noncomputable def X (n : Nat) : Ctx := ⟨⟨tab, [F_slices_EqualFunc_Rule.en n], 0, []⟩, 8, bnOf 0 ia⟩
noncomputable def T : CT := .o
noncomputable def f (n : Nat) (a : List (D_api_Rule)) (b : List (D_api_Rule)) : Option R := fRun (X n) n T Tryz.f140 ia io (a, b, ())
theorem e0 (n : Nat) (a : List (D_api_Rule)) (b : List (D_api_Rule)) : f n a b =
  bnd (F_slices_EqualFunc_Rule.f n a b) fun u1 =>
  some (u1.1, ()) := (hideF_eq _).trans (by kernel_rfl)
theorem phi (n : Nat) : ∀ e ∈ (X n).c.Φ, EntryOk Tryz.prog e := allE_cons (mkEntry_ok (F_slices_EqualFunc_Rule.ok n)) (allE_nil)
theorem ok (n : Nat) : FnOk Tryz.prog 140 ia io (fRun (X n) n T Tryz.f140 ia io) := tree_ok mixed tabIs (phi n) Tryz.func140 (by kernel_rfl) rfl
noncomputable def en (n : Nat) : Entry := mkEntry 140 ia io (fRun (X n) n T Tryz.f140 ia io)
end F_entry_SameRules
end Go.Proofs.YtdlkpmohjhjmfaaGreatDoor

namespace Go.Proofs.YtdlkpmohjhjmfaaGreatDoor
open Go Go.Va Go.Proofs
namespace F_slices_Equal_Grant
abbrev ia : List Ai := [.dat (.slice T_api_Grant), .dat (.slice T_api_Grant)]
abbrev io : List (Nat × Oi) := [(4, .dat .bool)]
abbrev R : Type := DOut ia io
noncomputable def X (n : Nat) : Ctx := ⟨⟨tab, [], 0, []⟩, 26, bnOf 0 ia⟩
abbrev g1 : List Si := [.dat 0 (.slice T_api_Grant), .dat 1 (.slice T_api_Grant), .dat 12 (.int .i64), .dat 13 (.int .i64)]
abbrev g2 : List Si := []
noncomputable def T : CT := (.s .o (.s .o (.s (.s .o (.b (.l g1 .o))) (.r g2 .o))))
noncomputable def J1 (n : Nat) (m : Nat) : (List (D_api_Grant)) × (List (D_api_Grant)) × Int × Int × Unit → Option R := jL (X n) n T (bodyOf Tryz.f141) (endK ia io) g1 [1, 1, 0, 1, 0] [] m
noncomputable def J2 (n : Nat) : Unit → Option R := jR (X n) n T (bodyOf Tryz.f141) (endK ia io) g2 [1, 1, 1] []
noncomputable def f (n : Nat) (s1 : List (D_api_Grant)) (s2 : List (D_api_Grant)) : Option R := fRun (X n) n T Tryz.f141 ia io (s1, s2, ())
theorem e0 (n : Nat) (s1 : List (D_api_Grant)) (s2 : List (D_api_Grant)) : f n s1 s2 =
  bIf ((hide (((s1.length : Nat) : Int) != ((s2.length : Nat) : Int)))) (
    some (false, ())
    ) (
    J1 n n (s1, s2, ((s1.length : Nat) : Int), 0, ())
    ) := (hideF_eq _).trans (by kernel_rfl)
theorem e1 (n m : Nat) (s1 : List (D_api_Grant)) (s2 : List (D_api_Grant)) (t12 : Int) (t13 : Int) : J1 n (m + 1) (s1, s2, t12, t13, ()) =
  bIf ((hide (decide (t13 < t12)))) (
    gIf (0 ≤ t13 ∧ t13 < ((s1.length : Nat) : Int)) (
      gIf (0 ≤ t13 ∧ t13 < ((s2.length : Nat) : Int)) (
        bIf ((hide (!(eqD T_api_Grant (List.getD s1 t13.toNat (Va.dflt T_api_Grant)) (List.getD s2 t13.toNat (Va.dflt T_api_Grant)))))) (
          some (false, ())
          ) (
          J1 n m (s1, s2, t12, (IntKind.i64.wrap (t13 + (1 : Int))), ())
          )
        )
      )
    ) (
    J2 n (())
    ) := (hideF_eq _).trans (by kernel_rfl)
theorem e2 (n : Nat) : J2 n (()) =
  some (true, ()) := (hideF_eq _).trans (by kernel_rfl)
theorem phi (n : Nat) : ∀ e ∈ (X n).c.Φ, EntryOk Tryz.prog e := allE_nil
theorem ok (n : Nat) : FnOk Tryz.prog 141 ia io (fRun (X n) n T Tryz.f141 ia io) := tree_ok mixed tabIs (phi n) Tryz.func141 (by kernel_rfl) rfl
noncomputable def en (n : Nat) : Entry := mkEntry 141 ia io (fRun (X n) n T Tryz.f141 ia io)
end F_slices_Equal_Grant
end Go.Proofs.YtdlkpmohjhjmfaaGreatDoor

namespace Go.Proofs.YtdlkpmohjhjmfaaGreatDoor
open Go Go.Va Go.Proofs
namespace F_bits_Pack
abbrev ia : List Ai := [.dat (.int .u64)]
abbrev io : List (Nat × Oi) := [(2, .val (.r 0 (.int .u8)))]
abbrev R : Type := DOut ia io
noncomputable def X (n : Nat) : Ctx := ⟨⟨tab, [], 0, []⟩, 19, bnOf 0 ia⟩
abbrev g1 : List Si := [.dat 0 (.int .u64), .val 3 (.r 200300 (.int .u8))]
abbrev g2 : List Si := [.dat 0 (.int .u64), .val 3 (.r 200300 (.int .u8))]
noncomputable def T : CT := (.s .o (.s .o (.s (.b (.l g1 .o)) (.r g2 .o))))
noncomputable def J1 (n : Nat) (m : Nat) : Int × (List (Int)) × Unit → Option R := jL (X n) n T (bodyOf Tryz.f118) (endK ia io) g1 [1, 1, 0, 0] [] m
noncomputable def J2 (n : Nat) : Int × (List (Int)) × Unit → Option R := jR (X n) n T (bodyOf Tryz.f118) (endK ia io) g2 [1, 1, 1] []
noncomputable def f (n : Nat) (n_ : Int) : Option R := fRun (X n) n T Tryz.f118 ia io (n_, ())
theorem e0 (n : Nat) (n_ : Int) : f n n_ =
  J1 n n (n_, [], ()) := (hideF_eq _).trans (by kernel_rfl)
theorem e1 (n m : Nat) (n_ : Int) (out : List (Int)) : J1 n (m + 1) (n_, out, ()) =
  bIf ((hide (decide (n_ ≥ (128 : Int))))) (
    gIf ((out.length + 1) * 1 ≤ 70368744177664) (
      gNo ((7 : Int) < 0) (
        J1 n m ((shrI .u64 n_ 7), (out ++ ([(bitI .or .u8 (IntKind.u8.wrap n_) 128)] : List (Int))), ())
        )
      )
    ) (
    J2 n (n_, out, ())
    ) := (hideF_eq _).trans (by kernel_rfl)
theorem e2 (n : Nat) (n_ : Int) (out : List (Int)) : J2 n (n_, out, ()) =
  gIf ((out.length + 1) * 1 ≤ 70368744177664) (
    some ((out ++ ([(IntKind.u8.wrap n_)] : List (Int))), ())
    ) := (hideF_eq _).trans (by kernel_rfl)
theorem phi (n : Nat) : ∀ e ∈ (X n).c.Φ, EntryOk Tryz.prog e := allE_nil
theorem ok (n : Nat) : FnOk Tryz.prog 118 ia io (fRun (X n) n T Tryz.f118 ia io) := tree_ok mixed tabIs (phi n) Tryz.func118 (by kernel_rfl) rfl
noncomputable def en (n : Nat) : Entry := mkEntry 118 ia io (fRun (X n) n T Tryz.f118 ia io)
end F_bits_Pack
end Go.Proofs.YtdlkpmohjhjmfaaGreatDoor

namespace Go.Proofs.YtdlkpmohjhjmfaaGreatDoor
open Go Go.Va Go.Proofs
namespace F_bits_Zig
abbrev ia : List Ai := [.dat (.int .i64)]
abbrev io : List (Nat × Oi) := [(2, .dat (.int .u64))]
abbrev R : Type := DOut ia io
noncomputable def X (n : Nat) : Ctx := ⟨⟨tab, [], 0, []⟩, 10, bnOf 0 ia⟩
noncomputable def T : CT := .o
noncomputable def f (n : Nat) (n_ : Int) : Option R := fRun (X n) n T Tryz.f176 ia io (n_, ())
theorem e0 (n : Nat) (n_ : Int) : f n n_ =
  gNo ((1 : Int) < 0) (
    gNo ((63 : Int) < 0) (
      some ((bitI .xor .u64 (shlI .u64 (IntKind.u64.wrap n_) 1) (IntKind.u64.wrap (shrI .i64 n_ 63))), ())
      )
    ) := (hideF_eq _).trans (by kernel_rfl)
theorem phi (n : Nat) : ∀ e ∈ (X n).c.Φ, EntryOk Tryz.prog e := allE_nil
theorem ok (n : Nat) : FnOk Tryz.prog 176 ia io (fRun (X n) n T Tryz.f176 ia io) := tree_ok mixed tabIs (phi n) Tryz.func176 (by kernel_rfl) rfl
noncomputable def en (n : Nat) : Entry := mkEntry 176 ia io (fRun (X n) n T Tryz.f176 ia io)
end F_bits_Zig
end Go.Proofs.YtdlkpmohjhjmfaaGreatDoor

namespace Go.Proofs.YtdlkpmohjhjmfaaGreatDoor
open Go Go.Va Go.Proofs
namespace F_ref01_Pack
abbrev ia : List Ai := [.dat (.int .u64)]
abbrev io : List (Nat × Oi) := [(2, .val (.r 0 (.int .u8)))]
abbrev R : Type := DOut ia io
noncomputable def X (n : Nat) : Ctx := ⟨⟨tab, [], 0, []⟩, 27, bnOf 0 ia⟩
abbrev g1 : List Si := [.dat 0 (.int .u64), .val 3 (.r 200300 (.int .u8))]
abbrev g2 : List Si := [.val 3 (.r 200300 (.int .u8))]
noncomputable def T : CT := (.s .o (.s .o (.s (.b (.l g1 .o)) (.r g2 .o))))
noncomputable def J1 (n : Nat) (m : Nat) : Int × (List (Int)) × Unit → Option R := jL (X n) n T (bodyOf Tryz.f67) (endK ia io) g1 [1, 1, 0, 0] [] m
noncomputable def J2 (n : Nat) : (List (Int)) × Unit → Option R := jR (X n) n T (bodyOf Tryz.f67) (endK ia io) g2 [1, 1, 1] []
noncomputable def f (n : Nat) (n_ : Int) : Option R := fRun (X n) n T Tryz.f67 ia io (n_, ())
theorem e0 (n : Nat) (n_ : Int) : f n n_ =
  gNo ((128 : Int) = 0) (
    J1 n n (n_, ([(IntKind.u8.wrap (Int.tmod n_ 128))] : List (Int)), ())
    ) := (hideF_eq _).trans (by kernel_rfl)
theorem e1 (n m : Nat) (n_ : Int) (out : List (Int)) : J1 n (m + 1) (n_, out, ()) =
  bIf ((hide (decide (n_ ≥ (128 : Int))))) (
    gIf (0 ≤ (IntKind.i64.wrap (((out.length : Nat) : Int) - (1 : Int))) ∧ (IntKind.i64.wrap (((out.length : Nat) : Int) - (1 : Int))) < ((out.length : Nat) : Int)) (
      gIf (0 ≤ (IntKind.i64.wrap (((out.length : Nat) : Int) - (1 : Int))) ∧ (IntKind.i64.wrap (((out.length : Nat) : Int) - (1 : Int))) < ((out.length : Nat) : Int)) (
        gNo ((128 : Int) = 0) (
          gNo ((128 : Int) = 0) (
            gIf (((List.set out (0 + ((IntKind.i64.wrap (((out.length : Nat) : Int) - (1 : Int))).toNat)) (IntKind.u8.wrap ((List.getD out (0 + ((IntKind.i64.wrap (((out.length : Nat) : Int) - (1 : Int))).toNat)) 0) + (128 : Int)))).length + 1) * 1 ≤ 70368744177664) (
              J1 n m ((IntKind.u64.wrap (Int.tdiv n_ 128)), ((List.set out (0 + ((IntKind.i64.wrap (((out.length : Nat) : Int) - (1 : Int))).toNat)) (IntKind.u8.wrap ((List.getD out (0 + ((IntKind.i64.wrap (((out.length : Nat) : Int) - (1 : Int))).toNat)) 0) + (128 : Int)))) ++ ([(IntKind.u8.wrap (Int.tmod (IntKind.u64.wrap (Int.tdiv n_ 128)) 128))] : List (Int))), ())
              )
            )
          )
        )
      )
    ) (
    J2 n (out, ())
    ) := (hideF_eq _).trans (by kernel_rfl)
theorem e2 (n : Nat) (out : List (Int)) : J2 n (out, ()) =
  some (out, ()) := (hideF_eq _).trans (by kernel_rfl)
theorem phi (n : Nat) : ∀ e ∈ (X n).c.Φ, EntryOk Tryz.prog e := allE_nil
theorem ok (n : Nat) : FnOk Tryz.prog 67 ia io (fRun (X n) n T Tryz.f67 ia io) := tree_ok mixed tabIs (phi n) Tryz.func67 (by kernel_rfl) rfl
noncomputable def en (n : Nat) : Entry := mkEntry 67 ia io (fRun (X n) n T Tryz.f67 ia io)
end F_ref01_Pack
end Go.Proofs.YtdlkpmohjhjmfaaGreatDoor

namespace Go.Proofs.YtdlkpmohjhjmfaaGreatDoor
open Go Go.Va Go.Proofs
namespace F_ref01_Zig
abbrev ia : List Ai := [.dat (.int .i64)]
abbrev io : List (Nat × Oi) := [(2, .dat (.int .u64))]
abbrev R : Type := DOut ia io
noncomputable def X (n : Nat) : Ctx := ⟨⟨tab, [], 0, []⟩, 14, bnOf 0 ia⟩
noncomputable def T : CT := .o
noncomputable def f (n : Nat) (n_ : Int) : Option R := fRun (X n) n T Tryz.f127 ia io (n_, ())
theorem e0 (n : Nat) (n_ : Int) : f n n_ =
  bIf ((hide (decide (n_ ≥ (0 : Int))))) (
    some ((IntKind.u64.wrap ((2 : Int) * (IntKind.u64.wrap n_))), ())
    ) (
    some ((IntKind.u64.wrap ((IntKind.u64.wrap ((2 : Int) * (IntKind.u64.wrap (IntKind.i64.wrap (0 - (IntKind.i64.wrap (n_ + (1 : Int)))))))) + (1 : Int))), ())
    ) := (hideF_eq _).trans (by kernel_rfl)
theorem phi (n : Nat) : ∀ e ∈ (X n).c.Φ, EntryOk Tryz.prog e := allE_nil
theorem ok (n : Nat) : FnOk Tryz.prog 127 ia io (fRun (X n) n T Tryz.f127 ia io) := tree_ok mixed tabIs (phi n) Tryz.func127 (by kernel_rfl) rfl
noncomputable def en (n : Nat) : Entry := mkEntry 127 ia io (fRun (X n) n T Tryz.f127 ia io)
end F_ref01_Zig
end Go.Proofs.YtdlkpmohjhjmfaaGreatDoor

namespace Go.Proofs.YtdlkpmohjhjmfaaGreatDoor
open Go Go.Va Go.Proofs
namespace F_ref10_Num
abbrev ia : List Ai := [.dat (.int .u64)]
abbrev io : List (Nat × Oi) := [(2, .dat .str)]
abbrev R : Type := DOut ia io
noncomputable def X (n : Nat) : Ctx := ⟨⟨tab, [F_ref01_Pack.en n], 0, []⟩, 6, bnOf 0 ia⟩
noncomputable def T : CT := .o
noncomputable def f (n : Nat) (n_ : Int) : Option R := fRun (X n) n T Tryz.f33 ia io (n_, ())
theorem e0 (n : Nat) (n_ : Int) : f n n_ =
  bnd (F_ref01_Pack.f n n_) fun u1 =>
  some ((bytesOf u1.1), ()) := (hideF_eq _).trans (by kernel_rfl)
theorem phi (n : Nat) : ∀ e ∈ (X n).c.Φ, EntryOk Tryz.prog e := allE_cons (mkEntry_ok (F_ref01_Pack.ok n)) (allE_nil)
theorem ok (n : Nat) : FnOk Tryz.prog 33 ia io (fRun (X n) n T Tryz.f33 ia io) := tree_ok mixed tabIs (phi n) Tryz.func33 (by kernel_rfl) rfl
noncomputable def en (n : Nat) : Entry := mkEntry 33 ia io (fRun (X n) n T Tryz.f33 ia io)
end F_ref10_Num
end Go.Proofs.YtdlkpmohjhjmfaaGreatDoor

namespace Go.Proofs.YtdlkpmohjhjmfaaGreatDoor
open Go Go.Va Go.Proofs
namespace F_bytes_Equal
abbrev ia : List Ai := [.dat (.slice (.int .u8)), .dat (.slice (.int .u8))]
abbrev io : List (Nat × Oi) := [(4, .dat .bool)]
abbrev R : Type := DOut ia io
noncomputable def X (n : Nat) : Ctx := ⟨⟨tab, [], 0, []⟩, 10, bnOf 0 ia⟩
noncomputable def T : CT := .o
noncomputable def f (n : Nat) (a : List (Int)) (b : List (Int)) : Option R := fRun (X n) n T Tryz.f138 ia io (a, b, ())
theorem e0 (n : Nat) (a : List (Int)) (b : List (Int)) : f n a b =
  some ((hide (eqS (bytesOf a) (bytesOf b))), ()) := (hideF_eq _).trans (by kernel_rfl)
theorem phi (n : Nat) : ∀ e ∈ (X n).c.Φ, EntryOk Tryz.prog e := allE_nil
theorem ok (n : Nat) : FnOk Tryz.prog 138 ia io (fRun (X n) n T Tryz.f138 ia io) := tree_ok mixed tabIs (phi n) Tryz.func138 (by kernel_rfl) rfl
noncomputable def en (n : Nat) : Entry := mkEntry 138 ia io (fRun (X n) n T Tryz.f138 ia io)
end F_bytes_Equal
end Go.Proofs.YtdlkpmohjhjmfaaGreatDoor

namespace Go.Proofs.YtdlkpmohjhjmfaaGreatDoor
open Go Go.Va Go.Proofs
namespace F_bits_Unpack
abbrev ia : List Ai := [.dat (.slice (.int .u8))]
abbrev io : List (Nat × Oi) := [(2, .dat (.int .u64)), (3, .dat (.int .i64)), (4, .dat (.int .i64))]
abbrev R : Type := DOut ia io
noncomputable def X (n : Nat) : Ctx := ⟨⟨tab, [F_bits_Pack.en n, F_bytes_Equal.en n], 0, []⟩, 44, bnOf 0 ia⟩
abbrev g1 : List Si := [.dat 0 (.slice (.int .u8)), .dat 2 (.int .u64), .dat 7 (.slice (.int .u8)), .dat 8 (.int .i64), .dat 9 (.int .i64)]
abbrev g2 : List Si := [.dat 0 (.slice (.int .u8)), .dat 2 (.int .u64), .dat 5 (.int .i64), .dat 6 (.int .u8), .dat 7 (.slice (.int .u8)), .dat 8 (.int .i64), .dat 9 (.int .i64), .dat 19 .bool]
abbrev g3 : List Si := [.dat 0 (.slice (.int .u8)), .dat 2 (.int .u64), .dat 5 (.int .i64), .dat 6 (.int .u8), .dat 7 (.slice (.int .u8)), .dat 8 (.int .i64), .dat 9 (.int .i64)]
abbrev g4 : List Si := []
noncomputable def T : CT := (.s .o (.s (.s .o (.b (.l g1 (.s .o (.s .o (.s (.b (.s .o (.s (.s .o (.r g2 .o)) (.r g3 .o)))) .o)))))) (.r g4 .o)))
noncomputable def J1 (n : Nat) (m : Nat) : (List (Int)) × Int × (List (Int)) × Int × Int × Unit → Option R := jL (X n) n T (bodyOf Tryz.f238) (endK ia io) g1 [1, 0, 1, 0] [] m
noncomputable def J2 (n m1 : Nat) : (List (Int)) × Int × Int × Int × (List (Int)) × Int × Int × Bool × Unit → Option R := jR (X n) n T (bodyOf Tryz.f238) (endK ia io) g2 [1, 0, 1, 0, 0, 1, 1, 0, 0, 1, 0, 1] [m1]
noncomputable def J3 (n m1 : Nat) : (List (Int)) × Int × Int × Int × (List (Int)) × Int × Int × Unit → Option R := jR (X n) n T (bodyOf Tryz.f238) (endK ia io) g3 [1, 0, 1, 0, 0, 1, 1, 0, 0, 1, 1] [m1]
noncomputable def J4 (n : Nat) : Unit → Option R := jR (X n) n T (bodyOf Tryz.f238) (endK ia io) g4 [1, 1] []
noncomputable def f (n : Nat) (b : List (Int)) : Option R := fRun (X n) n T Tryz.f238 ia io (b, ())
theorem e0 (n : Nat) (b : List (Int)) : f n b =
  J1 n n (b, 0, b, ((b.length : Nat) : Int), 0, ()) := (hideF_eq _).trans (by kernel_rfl)
theorem e1 (n m : Nat) (b : List (Int)) (n_ : Int) (t7 : List (Int)) (t8 : Int) (t9 : Int) : J1 n (m + 1) (b, n_, t7, t8, t9, ()) =
  bIf ((hide (decide (t9 < t8)))) (
    gIf (0 ≤ t9 ∧ t9 < ((t7.length : Nat) : Int)) (
      bIf ((hide (t9 == (9 : Int)))) (
        J2 n m (b, n_, t9, (List.getD t7 t9.toNat 0), t7, t8, t9, (hide (decide ((List.getD t7 t9.toNat 0) > (1 : Int)))), ())
        ) (
        J2 n m (b, n_, t9, (List.getD t7 t9.toNat 0), t7, t8, t9, false, ())
        )
      )
    ) (
    J4 n (())
    ) := (hideF_eq _).trans (by kernel_rfl)
theorem e2 (n m1 : Nat) (b : List (Int)) (n_ : Int) (i : Int) (x_ : Int) (t7 : List (Int)) (t8 : Int) (t9 : Int) (t19 : Bool) : J2 n m1 (b, n_, i, x_, t7, t8, t9, t19, ()) =
  bIf (t19) (
    some (0, 0, 2, ())
    ) (
    J3 n m1 (b, n_, i, x_, t7, t8, t9, ())
    ) := (hideF_eq _).trans (by kernel_rfl)
theorem e3 (n m1 : Nat) (b : List (Int)) (n_ : Int) (i : Int) (x_ : Int) (t7 : List (Int)) (t8 : Int) (t9 : Int) : J3 n m1 (b, n_, i, x_, t7, t8, t9, ()) =
  gNo ((IntKind.u64.wrap ((7 : Int) * (IntKind.u64.wrap i))) < 0) (
    gNo ((7 : Int) < 0) (
      bIf ((hide ((shrI .u8 x_ 7) != (0 : Int)))) (
        J1 n m1 (b, (bitI .or .u64 n_ (shlI .u64 (IntKind.u64.wrap (bitI .andNot .u8 x_ 128)) (IntKind.u64.wrap ((7 : Int) * (IntKind.u64.wrap i))))), t7, t8, (IntKind.i64.wrap (t9 + (1 : Int))), ())
        ) (
        bnd (F_bits_Pack.f n (bitI .or .u64 n_ (shlI .u64 (IntKind.u64.wrap (bitI .andNot .u8 x_ 128)) (IntKind.u64.wrap ((7 : Int) * (IntKind.u64.wrap i)))))) fun u1 =>
        gIf (0 ≤ (IntKind.i64.wrap (i + (1 : Int))) ∧ (IntKind.i64.wrap (i + (1 : Int))) ≤ ((b.length : Nat) : Int)) (
          gIf (0 ≤ (0 : Int) ∧ (0 : Int) ≤ (IntKind.i64.wrap (i + (1 : Int)))) (
            bnd (F_bytes_Equal.f n u1.1 ((b.take ((IntKind.i64.wrap (i + (1 : Int))).toNat)).drop 0)) fun u2 =>
            bIf ((!u2.1)) (
              some (0, 0, 2, ())
              ) (
              some ((bitI .or .u64 n_ (shlI .u64 (IntKind.u64.wrap (bitI .andNot .u8 x_ 128)) (IntKind.u64.wrap ((7 : Int) * (IntKind.u64.wrap i))))), (IntKind.i64.wrap (i + (1 : Int))), 0, ())
              )
            )
          )
        )
      )
    ) := (hideF_eq _).trans (by kernel_rfl)
theorem e4 (n : Nat) : J4 n (()) =
  some (0, 0, 3, ()) := (hideF_eq _).trans (by kernel_rfl)
theorem phi (n : Nat) : ∀ e ∈ (X n).c.Φ, EntryOk Tryz.prog e := allE_cons (mkEntry_ok (F_bits_Pack.ok n)) (allE_cons (mkEntry_ok (F_bytes_Equal.ok n)) (allE_nil))
theorem ok (n : Nat) : FnOk Tryz.prog 238 ia io (fRun (X n) n T Tryz.f238 ia io) := tree_ok mixed tabIs (phi n) Tryz.func238 (by kernel_rfl) rfl
noncomputable def en (n : Nat) : Entry := mkEntry 238 ia io (fRun (X n) n T Tryz.f238 ia io)
end F_bits_Unpack
end Go.Proofs.YtdlkpmohjhjmfaaGreatDoor

namespace Go.Proofs.YtdlkpmohjhjmfaaGreatDoor
open Go Go.Va Go.Proofs
namespace F_bits_Zag
abbrev ia : List Ai := [.dat (.int .u64)]
abbrev io : List (Nat × Oi) := [(2, .dat (.int .i64))]
abbrev R : Type := DOut ia io
noncomputable def X (n : Nat) : Ctx := ⟨⟨tab, [], 0, []⟩, 11, bnOf 0 ia⟩
noncomputable def T : CT := .o
noncomputable def f (n : Nat) (u : Int) : Option R := fRun (X n) n T Tryz.f254 ia io (u, ())
theorem e0 (n : Nat) (u : Int) : f n u =
  gNo ((1 : Int) < 0) (
    some ((bitI .xor .i64 (IntKind.i64.wrap (shrI .u64 u 1)) (IntKind.i64.wrap (0 - (IntKind.i64.wrap (bitI .and .u64 u 1))))), ())
    ) := (hideF_eq _).trans (by kernel_rfl)
theorem phi (n : Nat) : ∀ e ∈ (X n).c.Φ, EntryOk Tryz.prog e := allE_nil
theorem ok (n : Nat) : FnOk Tryz.prog 254 ia io (fRun (X n) n T Tryz.f254 ia io) := tree_ok mixed tabIs (phi n) Tryz.func254 (by kernel_rfl) rfl
noncomputable def en (n : Nat) : Entry := mkEntry 254 ia io (fRun (X n) n T Tryz.f254 ia io)
end F_bits_Zag
end Go.Proofs.YtdlkpmohjhjmfaaGreatDoor

namespace Go.Proofs.YtdlkpmohjhjmfaaGreatDoor
open Go Go.Va Go.Proofs
namespace F_pack_Writer_put
abbrev ia : List Ai := [.ptr (.p (.r 0 (.int .u8)) (.d .unit)), .dat (.slice (.int .u8))]
abbrev io : List (Nat × Oi) := [(4, .arg 0 500000 (.d T_pack_Writer))]
abbrev R : Type := DOut ia io
noncomputable def X (n : Nat) : Ctx := ⟨⟨tab, [], 0, []⟩, 17, bnOf 0 ia⟩
noncomputable def T : CT := .o
noncomputable def f (n : Nat) (w_ : D_pack_Writer) (b : List (Int)) : Option R := fRun (X n) n T Tryz.f117 ia io (w_, b, ())
theorem e0 (n : Nat) (w_ : D_pack_Writer) (b : List (Int)) : f n w_ b =
  bIf ((hide true)) (
    gIf ((w_.1.length + b.length) * 1 ≤ 70368744177664) (
      some (((w_.1 ++ b), w_.2), ())
      )
    ) (
    some ((w_.1, w_.2), ())
    ) := (hideF_eq _).trans (by kernel_rfl)
theorem phi (n : Nat) : ∀ e ∈ (X n).c.Φ, EntryOk Tryz.prog e := allE_nil
theorem ok (n : Nat) : FnOk Tryz.prog 117 ia io (fRun (X n) n T Tryz.f117 ia io) := tree_ok mixed tabIs (phi n) Tryz.func117 (by kernel_rfl) rfl
noncomputable def en (n : Nat) : Entry := mkEntry 117 ia io (fRun (X n) n T Tryz.f117 ia io)
end F_pack_Writer_put
end Go.Proofs.YtdlkpmohjhjmfaaGreatDoor

namespace Go.Proofs.YtdlkpmohjhjmfaaGreatDoor
open Go Go.Va Go.Proofs
namespace F_pack_Writer_Num
abbrev ia : List Ai := [.ptr (.p (.r 0 (.int .u8)) (.d .unit)), .dat (.int .u64)]
abbrev io : List (Nat × Oi) := [(4, .arg 0 500000 (.d T_pack_Writer))]
abbrev R : Type := DOut ia io
noncomputable def X (n : Nat) : Ctx := ⟨⟨tab, [F_pack_Writer_put.en n, F_bits_Pack.en n], 0, []⟩, 9, bnOf 0 ia⟩
noncomputable def T : CT := .o
noncomputable def f (n : Nat) (w_ : D_pack_Writer) (n_ : Int) : Option R := fRun (X n) n T Tryz.f58 ia io (w_, n_, ())
theorem e0 (n : Nat) (w_ : D_pack_Writer) (n_ : Int) : f n w_ n_ =
  bnd (F_bits_Pack.f n n_) fun u1 =>
  bnd (F_pack_Writer_put.f n (w_.1, w_.2) u1.1) fun u2 =>
  some ((u2.1.1, u2.1.2), ()) := (hideF_eq _).trans (by kernel_rfl)
theorem phi (n : Nat) : ∀ e ∈ (X n).c.Φ, EntryOk Tryz.prog e := allE_cons (mkEntry_ok (F_pack_Writer_put.ok n)) (allE_cons (mkEntry_ok (F_bits_Pack.ok n)) (allE_nil))
theorem ok (n : Nat) : FnOk Tryz.prog 58 ia io (fRun (X n) n T Tryz.f58 ia io) := tree_ok mixed tabIs (phi n) Tryz.func58 (by kernel_rfl) rfl
noncomputable def en (n : Nat) : Entry := mkEntry 58 ia io (fRun (X n) n T Tryz.f58 ia io)
end F_pack_Writer_Num
end Go.Proofs.YtdlkpmohjhjmfaaGreatDoor

namespace Go.Proofs.YtdlkpmohjhjmfaaGreatDoor
open Go Go.Va Go.Proofs
namespace F_entry_Writer_Default
abbrev ia : List Ai := [.fn (.str 1) [(.p (.r 0 (.int .u8)) (.d .unit))], .dat T_api_Default]
abbrev io : List (Nat × Oi) := []
abbrev R : Type := DOut ia io
noncomputable def X (n : Nat) : Ctx := ⟨⟨tab, [F_pack_Writer_Num.en n], 0, []⟩, 14, bnOf 0 ia⟩
noncomputable def T : CT := .o
noncomputable def f (n : Nat) (wc0 : D_pack_Writer) (d : D_api_Default) : Option R := fRun (X n) n T Tryz.f134 ia io (wc0, d, ())
theorem e0 (n : Nat) (wc0 : D_pack_Writer) (d : D_api_Default) : f n wc0 d =
  bnd (F_pack_Writer_Num.f n (wc0.1, wc0.2) (IntKind.u64.wrap d.1)) fun u1 =>
  bnd (F_pack_Writer_Num.f n (u1.1.1, u1.1.2) (IntKind.u64.wrap d.2.1)) fun u2 =>
  some ((u2.1.1, u2.1.2), ()) := (hideF_eq _).trans (by kernel_rfl)
theorem phi (n : Nat) : ∀ e ∈ (X n).c.Φ, EntryOk Tryz.prog e := allE_cons (mkEntry_ok (F_pack_Writer_Num.ok n)) (allE_nil)
theorem ok (n : Nat) : FnOk Tryz.prog 134 ia io (fRun (X n) n T Tryz.f134 ia io) := tree_ok mixed tabIs (phi n) Tryz.func134 (by kernel_rfl) rfl
noncomputable def en (n : Nat) : Entry := mkEntry 134 ia io (fRun (X n) n T Tryz.f134 ia io)
end F_entry_Writer_Default
end Go.Proofs.YtdlkpmohjhjmfaaGreatDoor

namespace Go.Proofs.YtdlkpmohjhjmfaaGreatDoor
open Go Go.Va Go.Proofs
namespace F_pack_Writer_Flag
abbrev ia : List Ai := [.ptr (.p (.r 0 (.int .u8)) (.d .unit)), .dat .bool]
abbrev io : List (Nat × Oi) := [(4, .arg 0 500000 (.d T_pack_Writer))]
abbrev R : Type := DOut ia io
noncomputable def X (n : Nat) : Ctx := ⟨⟨tab, [F_pack_Writer_put.en n], 0, []⟩, 12, bnOf 0 ia⟩
noncomputable def T : CT := .o
noncomputable def f (n : Nat) (w_ : D_pack_Writer) (b : Bool) : Option R := fRun (X n) n T Tryz.f61 ia io (w_, b, ())
theorem e0 (n : Nat) (w_ : D_pack_Writer) (b : Bool) : f n w_ b =
  bIf (b) (
    bnd (F_pack_Writer_put.f n (w_.1, w_.2) ([1] : List (Int))) fun u1 =>
    some ((u1.1.1, u1.1.2), ())
    ) (
    bnd (F_pack_Writer_put.f n (w_.1, w_.2) ([0] : List (Int))) fun u2 =>
    some ((u2.1.1, u2.1.2), ())
    ) := (hideF_eq _).trans (by kernel_rfl)
theorem phi (n : Nat) : ∀ e ∈ (X n).c.Φ, EntryOk Tryz.prog e := allE_cons (mkEntry_ok (F_pack_Writer_put.ok n)) (allE_nil)
theorem ok (n : Nat) : FnOk Tryz.prog 61 ia io (fRun (X n) n T Tryz.f61 ia io) := tree_ok mixed tabIs (phi n) Tryz.func61 (by kernel_rfl) rfl
noncomputable def en (n : Nat) : Entry := mkEntry 61 ia io (fRun (X n) n T Tryz.f61 ia io)
end F_pack_Writer_Flag
end Go.Proofs.YtdlkpmohjhjmfaaGreatDoor

namespace Go.Proofs.YtdlkpmohjhjmfaaGreatDoor
open Go Go.Va Go.Proofs
namespace F_pack_Writer_Text
abbrev ia : List Ai := [.ptr (.p (.r 0 (.int .u8)) (.d .unit)), .dat .str]
abbrev io : List (Nat × Oi) := [(4, .arg 0 500000 (.d T_pack_Writer))]
abbrev R : Type := DOut ia io
noncomputable def X (n : Nat) : Ctx := ⟨⟨tab, [F_pack_Writer_Num.en n, F_pack_Writer_put.en n], 0, []⟩, 13, bnOf 0 ia⟩
noncomputable def T : CT := .o
noncomputable def f (n : Nat) (w_ : D_pack_Writer) (s_ : ByteArray) : Option R := fRun (X n) n T Tryz.f60 ia io (w_, s_, ())
theorem e0 (n : Nat) (w_ : D_pack_Writer) (s_ : ByteArray) : f n w_ s_ =
  bnd (F_pack_Writer_Num.f n (w_.1, w_.2) (IntKind.u64.wrap (s_.size : Int))) fun u1 =>
  bnd (F_pack_Writer_put.f n (u1.1.1, u1.1.2) (ofBytes s_)) fun u2 =>
  some ((u2.1.1, u2.1.2), ()) := (hideF_eq _).trans (by kernel_rfl)
theorem phi (n : Nat) : ∀ e ∈ (X n).c.Φ, EntryOk Tryz.prog e := allE_cons (mkEntry_ok (F_pack_Writer_Num.ok n)) (allE_cons (mkEntry_ok (F_pack_Writer_put.ok n)) (allE_nil))
theorem ok (n : Nat) : FnOk Tryz.prog 60 ia io (fRun (X n) n T Tryz.f60 ia io) := tree_ok mixed tabIs (phi n) Tryz.func60 (by kernel_rfl) rfl
noncomputable def en (n : Nat) : Entry := mkEntry 60 ia io (fRun (X n) n T Tryz.f60 ia io)
end F_pack_Writer_Text
end Go.Proofs.YtdlkpmohjhjmfaaGreatDoor

namespace Go.Proofs.YtdlkpmohjhjmfaaGreatDoor
open Go Go.Va Go.Proofs
namespace F_entry_Writer_Grants
abbrev ia : List Ai := [.fn (.str 1) [(.p (.r 0 (.int .u8)) (.d .unit))], .dat (.slice T_api_Grant)]
abbrev io : List (Nat × Oi) := []
abbrev R : Type := DOut ia io
noncomputable def X (n : Nat) : Ctx := ⟨⟨tab, [F_pack_Writer_Num.en n, F_pack_Writer_Text.en n, F_pack_Writer_Flag.en n], 0, []⟩, 33, bnOf 0 ia⟩
abbrev g1 : List Si := [.ref 2 2 T_entry_Reader, .dat 12 (.slice T_api_Grant), .dat 13 (.int .i64), .dat 14 (.int .i64), .box 2 (.p (.al 500000 T_pack_Writer) (.d .unit)), .box 500000 (.p (.r 100000500000000 (.int .u8)) (.d .unit))]
noncomputable def T : CT := (.s .o (.s .o (.s .o (.b (.l g1 .o)))))
noncomputable def J1 (n : Nat) (m : Nat) : (List (D_api_Grant)) × Int × Int × D_entry_Reader × D_pack_Writer × Unit → Option R := jL (X n) n T (bodyOf Tryz.f136) (endK ia io) g1 [1, 1, 1, 0] [] m
noncomputable def f (n : Nat) (wc0 : D_pack_Writer) (list : List (D_api_Grant)) : Option R := fRun (X n) n T Tryz.f136 ia io (wc0, list, ())
theorem e0 (n : Nat) (wc0 : D_pack_Writer) (list : List (D_api_Grant)) : f n wc0 list =
  bnd (F_pack_Writer_Num.f n (wc0.1, wc0.2) (IntKind.u64.wrap ((list.length : Nat) : Int))) fun u1 =>
  J1 n n (list, ((list.length : Nat) : Int), 0, ((), ()), (u1.1.1, u1.1.2), ()) := (hideF_eq _).trans (by kernel_rfl)
theorem e1 (n m : Nat) (t12 : List (D_api_Grant)) (t13 : Int) (t14 : Int) (w_ : D_entry_Reader) (b500000 : D_pack_Writer) : J1 n (m + 1) (t12, t13, t14, w_, b500000, ()) =
  bIf ((hide (decide (t14 < t13)))) (
    gIf (0 ≤ t14 ∧ t14 < ((t12.length : Nat) : Int)) (
      bnd (F_pack_Writer_Flag.f n (b500000.1, b500000.2) ((List.getD t12 t14.toNat (Va.dflt T_api_Grant)).1)) fun u1 =>
      bnd (F_pack_Writer_Text.f n (u1.1.1, u1.1.2) (((List.getD t12 t14.toNat (Va.dflt T_api_Grant)).2).1)) fun u2 =>
      bnd (F_pack_Writer_Text.f n (u2.1.1, u2.1.2) ((((List.getD t12 t14.toNat (Va.dflt T_api_Grant)).2).2).1)) fun u3 =>
      bnd (F_pack_Writer_Text.f n (u3.1.1, u3.1.2) (((((List.getD t12 t14.toNat (Va.dflt T_api_Grant)).2).2).2).1)) fun u4 =>
      J1 n m (t12, t13, (IntKind.i64.wrap (t14 + (1 : Int))), ((), w_.2), (u4.1.1, u4.1.2), ())
      )
    ) (
    some ((b500000.1, b500000.2), ())
    ) := (hideF_eq _).trans (by kernel_rfl)
theorem phi (n : Nat) : ∀ e ∈ (X n).c.Φ, EntryOk Tryz.prog e := allE_cons (mkEntry_ok (F_pack_Writer_Num.ok n)) (allE_cons (mkEntry_ok (F_pack_Writer_Text.ok n)) (allE_cons (mkEntry_ok (F_pack_Writer_Flag.ok n)) (allE_nil)))
theorem ok (n : Nat) : FnOk Tryz.prog 136 ia io (fRun (X n) n T Tryz.f136 ia io) := tree_ok mixed tabIs (phi n) Tryz.func136 (by kernel_rfl) rfl
noncomputable def en (n : Nat) : Entry := mkEntry 136 ia io (fRun (X n) n T Tryz.f136 ia io)
end F_entry_Writer_Grants
end Go.Proofs.YtdlkpmohjhjmfaaGreatDoor

namespace Go.Proofs.YtdlkpmohjhjmfaaGreatDoor
open Go Go.Va Go.Proofs
namespace F_pack_Writer_Int
abbrev ia : List Ai := [.ptr (.p (.r 0 (.int .u8)) (.d .unit)), .dat (.int .i64)]
abbrev io : List (Nat × Oi) := [(4, .arg 0 500000 (.d T_pack_Writer))]
abbrev R : Type := DOut ia io
noncomputable def X (n : Nat) : Ctx := ⟨⟨tab, [F_pack_Writer_Num.en n, F_bits_Zig.en n], 0, []⟩, 9, bnOf 0 ia⟩
noncomputable def T : CT := .o
noncomputable def f (n : Nat) (w_ : D_pack_Writer) (n_ : Int) : Option R := fRun (X n) n T Tryz.f121 ia io (w_, n_, ())
theorem e0 (n : Nat) (w_ : D_pack_Writer) (n_ : Int) : f n w_ n_ =
  bnd (F_bits_Zig.f n n_) fun u1 =>
  bnd (F_pack_Writer_Num.f n (w_.1, w_.2) u1.1) fun u2 =>
  some ((u2.1.1, u2.1.2), ()) := (hideF_eq _).trans (by kernel_rfl)
theorem phi (n : Nat) : ∀ e ∈ (X n).c.Φ, EntryOk Tryz.prog e := allE_cons (mkEntry_ok (F_pack_Writer_Num.ok n)) (allE_cons (mkEntry_ok (F_bits_Zig.ok n)) (allE_nil))
theorem ok (n : Nat) : FnOk Tryz.prog 121 ia io (fRun (X n) n T Tryz.f121 ia io) := tree_ok mixed tabIs (phi n) Tryz.func121 (by kernel_rfl) rfl
noncomputable def en (n : Nat) : Entry := mkEntry 121 ia io (fRun (X n) n T Tryz.f121 ia io)
end F_pack_Writer_Int
end Go.Proofs.YtdlkpmohjhjmfaaGreatDoor

namespace Go.Proofs.YtdlkpmohjhjmfaaGreatDoor
open Go Go.Va Go.Proofs
namespace F_entry_Writer_Lock
abbrev ia : List Ai := [.fn (.str 1) [(.p (.r 0 (.int .u8)) (.d .unit))], .dat T_api_Lock]
abbrev io : List (Nat × Oi) := []
abbrev R : Type := DOut ia io
noncomputable def X (n : Nat) : Ctx := ⟨⟨tab, [F_pack_Writer_Num.en n, F_pack_Writer_Flag.en n, F_pack_Writer_Int.en n], 0, []⟩, 16, bnOf 0 ia⟩
noncomputable def T : CT := .o
noncomputable def f (n : Nat) (wc0 : D_pack_Writer) (l : D_api_Lock) : Option R := fRun (X n) n T Tryz.f123 ia io (wc0, l, ())
theorem e0 (n : Nat) (wc0 : D_pack_Writer) (l : D_api_Lock) : f n wc0 l =
  bnd (F_pack_Writer_Num.f n (wc0.1, wc0.2) (IntKind.u64.wrap l.1)) fun u1 =>
  bnd (F_pack_Writer_Int.f n (u1.1.1, u1.1.2) l.2.1) fun u2 =>
  bnd (F_pack_Writer_Flag.f n (u2.1.1, u2.1.2) l.2.2.1) fun u3 =>
  some ((u3.1.1, u3.1.2), ()) := (hideF_eq _).trans (by kernel_rfl)
theorem phi (n : Nat) : ∀ e ∈ (X n).c.Φ, EntryOk Tryz.prog e := allE_cons (mkEntry_ok (F_pack_Writer_Num.ok n)) (allE_cons (mkEntry_ok (F_pack_Writer_Flag.ok n)) (allE_cons (mkEntry_ok (F_pack_Writer_Int.ok n)) (allE_nil)))
theorem ok (n : Nat) : FnOk Tryz.prog 123 ia io (fRun (X n) n T Tryz.f123 ia io) := tree_ok mixed tabIs (phi n) Tryz.func123 (by kernel_rfl) rfl
noncomputable def en (n : Nat) : Entry := mkEntry 123 ia io (fRun (X n) n T Tryz.f123 ia io)
end F_entry_Writer_Lock
end Go.Proofs.YtdlkpmohjhjmfaaGreatDoor

namespace Go.Proofs.YtdlkpmohjhjmfaaGreatDoor
open Go Go.Va Go.Proofs
namespace F_entry_Writer_Tags
abbrev ia : List Ai := [.fn (.str 1) [(.p (.r 0 (.int .u8)) (.d .unit))], .dat (.slice T_api_Tag)]
abbrev io : List (Nat × Oi) := []
abbrev R : Type := DOut ia io
noncomputable def X (n : Nat) : Ctx := ⟨⟨tab, [F_pack_Writer_Num.en n, F_pack_Writer_Text.en n], 0, []⟩, 27, bnOf 0 ia⟩
abbrev g1 : List Si := [.ref 2 2 T_entry_Reader, .dat 12 (.slice T_api_Tag), .dat 13 (.int .i64), .dat 14 (.int .i64), .box 2 (.p (.al 500000 T_pack_Writer) (.d .unit)), .box 500000 (.p (.r 100000500000000 (.int .u8)) (.d .unit))]
noncomputable def T : CT := (.s .o (.s .o (.s .o (.b (.l g1 .o)))))
noncomputable def J1 (n : Nat) (m : Nat) : (List (D_api_Tag)) × Int × Int × D_entry_Reader × D_pack_Writer × Unit → Option R := jL (X n) n T (bodyOf Tryz.f124) (endK ia io) g1 [1, 1, 1, 0] [] m
noncomputable def f (n : Nat) (wc0 : D_pack_Writer) (list : List (D_api_Tag)) : Option R := fRun (X n) n T Tryz.f124 ia io (wc0, list, ())
theorem e0 (n : Nat) (wc0 : D_pack_Writer) (list : List (D_api_Tag)) : f n wc0 list =
  bnd (F_pack_Writer_Num.f n (wc0.1, wc0.2) (IntKind.u64.wrap ((list.length : Nat) : Int))) fun u1 =>
  J1 n n (list, ((list.length : Nat) : Int), 0, ((), ()), (u1.1.1, u1.1.2), ()) := (hideF_eq _).trans (by kernel_rfl)
theorem e1 (n m : Nat) (t12 : List (D_api_Tag)) (t13 : Int) (t14 : Int) (w_ : D_entry_Reader) (b500000 : D_pack_Writer) : J1 n (m + 1) (t12, t13, t14, w_, b500000, ()) =
  bIf ((hide (decide (t14 < t13)))) (
    gIf (0 ≤ t14 ∧ t14 < ((t12.length : Nat) : Int)) (
      bnd (F_pack_Writer_Text.f n (b500000.1, b500000.2) ((List.getD t12 t14.toNat (Va.dflt T_api_Tag)).1)) fun u1 =>
      bnd (F_pack_Writer_Text.f n (u1.1.1, u1.1.2) (((List.getD t12 t14.toNat (Va.dflt T_api_Tag)).2).1)) fun u2 =>
      J1 n m (t12, t13, (IntKind.i64.wrap (t14 + (1 : Int))), ((), w_.2), (u2.1.1, u2.1.2), ())
      )
    ) (
    some ((b500000.1, b500000.2), ())
    ) := (hideF_eq _).trans (by kernel_rfl)
theorem phi (n : Nat) : ∀ e ∈ (X n).c.Φ, EntryOk Tryz.prog e := allE_cons (mkEntry_ok (F_pack_Writer_Num.ok n)) (allE_cons (mkEntry_ok (F_pack_Writer_Text.ok n)) (allE_nil))
theorem ok (n : Nat) : FnOk Tryz.prog 124 ia io (fRun (X n) n T Tryz.f124 ia io) := tree_ok mixed tabIs (phi n) Tryz.func124 (by kernel_rfl) rfl
noncomputable def en (n : Nat) : Entry := mkEntry 124 ia io (fRun (X n) n T Tryz.f124 ia io)
end F_entry_Writer_Tags
end Go.Proofs.YtdlkpmohjhjmfaaGreatDoor

namespace Go.Proofs.YtdlkpmohjhjmfaaGreatDoor
open Go Go.Va Go.Proofs
namespace F_entry_Writer_Rules
abbrev ia : List Ai := [.fn (.str 1) [(.p (.r 0 (.int .u8)) (.d .unit))], .dat (.slice T_api_Rule)]
abbrev io : List (Nat × Oi) := []
abbrev R : Type := DOut ia io
noncomputable def X (n : Nat) : Ctx := ⟨⟨tab, [F_pack_Writer_Num.en n, F_pack_Writer_Text.en n, F_pack_Writer_Flag.en n, F_entry_Writer_Tags.en n], 0, []⟩, 41, bnOf 0 ia⟩
abbrev g1 : List Si := [.ref 2 2 T_entry_Reader, .dat 12 (.slice T_api_Rule), .dat 13 (.int .i64), .dat 14 (.int .i64), .box 2 (.p (.al 500000 T_pack_Writer) (.d .unit)), .box 500000 (.p (.r 100000500000000 (.int .u8)) (.d .unit))]
noncomputable def T : CT := (.s .o (.s .o (.s .o (.b (.l g1 .o)))))
noncomputable def J1 (n : Nat) (m : Nat) : (List (D_api_Rule)) × Int × Int × D_entry_Reader × D_pack_Writer × Unit → Option R := jL (X n) n T (bodyOf Tryz.f135) (endK ia io) g1 [1, 1, 1, 0] [] m
noncomputable def f (n : Nat) (wc0 : D_pack_Writer) (list : List (D_api_Rule)) : Option R := fRun (X n) n T Tryz.f135 ia io (wc0, list, ())
theorem e0 (n : Nat) (wc0 : D_pack_Writer) (list : List (D_api_Rule)) : f n wc0 list =
  bnd (F_pack_Writer_Num.f n (wc0.1, wc0.2) (IntKind.u64.wrap ((list.length : Nat) : Int))) fun u1 =>
  J1 n n (list, ((list.length : Nat) : Int), 0, ((), ()), (u1.1.1, u1.1.2), ()) := (hideF_eq _).trans (by kernel_rfl)
theorem e1 (n m : Nat) (t12 : List (D_api_Rule)) (t13 : Int) (t14 : Int) (w_ : D_entry_Reader) (b500000 : D_pack_Writer) : J1 n (m + 1) (t12, t13, t14, w_, b500000, ()) =
  bIf ((hide (decide (t14 < t13)))) (
    gIf (0 ≤ t14 ∧ t14 < ((t12.length : Nat) : Int)) (
      bnd (F_pack_Writer_Text.f n (b500000.1, b500000.2) ((List.getD t12 t14.toNat (Va.dflt T_api_Rule)).1)) fun u1 =>
      bnd (F_entry_Writer_Tags.f n (u1.1.1, u1.1.2) (((List.getD t12 t14.toNat (Va.dflt T_api_Rule)).2).1)) fun u2 =>
      bnd (F_pack_Writer_Num.f n (u2.1.1, u2.1.2) (IntKind.u64.wrap ((((List.getD t12 t14.toNat (Va.dflt T_api_Rule)).2).2).1))) fun u3 =>
      bnd (F_pack_Writer_Num.f n (u3.1.1, u3.1.2) (IntKind.u64.wrap (((((List.getD t12 t14.toNat (Va.dflt T_api_Rule)).2).2).2).1))) fun u4 =>
      bnd (F_pack_Writer_Flag.f n (u4.1.1, u4.1.2) ((((((List.getD t12 t14.toNat (Va.dflt T_api_Rule)).2).2).2).2).1)) fun u5 =>
      J1 n m (t12, t13, (IntKind.i64.wrap (t14 + (1 : Int))), ((), w_.2), (u5.1.1, u5.1.2), ())
      )
    ) (
    some ((b500000.1, b500000.2), ())
    ) := (hideF_eq _).trans (by kernel_rfl)
theorem phi (n : Nat) : ∀ e ∈ (X n).c.Φ, EntryOk Tryz.prog e := allE_cons (mkEntry_ok (F_pack_Writer_Num.ok n)) (allE_cons (mkEntry_ok (F_pack_Writer_Text.ok n)) (allE_cons (mkEntry_ok (F_pack_Writer_Flag.ok n)) (allE_cons (mkEntry_ok (F_entry_Writer_Tags.ok n)) (allE_nil))))
theorem ok (n : Nat) : FnOk Tryz.prog 135 ia io (fRun (X n) n T Tryz.f135 ia io) := tree_ok mixed tabIs (phi n) Tryz.func135 (by kernel_rfl) rfl
noncomputable def en (n : Nat) : Entry := mkEntry 135 ia io (fRun (X n) n T Tryz.f135 ia io)
end F_entry_Writer_Rules
end Go.Proofs.YtdlkpmohjhjmfaaGreatDoor

namespace Go.Proofs.YtdlkpmohjhjmfaaGreatDoor
open Go Go.Va Go.Proofs
namespace F_pack_Writer_Digest
abbrev ia : List Ai := [.ptr (.p (.r 0 (.int .u8)) (.d .unit)), .dat (.arr 32 (.int .u8))]
abbrev io : List (Nat × Oi) := [(4, .arg 0 500000 (.d T_pack_Writer))]
abbrev R : Type := DOut ia io
noncomputable def X (n : Nat) : Ctx := ⟨⟨tab, [F_pack_Writer_put.en n], 0, [6]⟩, 8, bnOf 0 ia⟩
noncomputable def T : CT := .o
noncomputable def f (n : Nat) (w_ : D_pack_Writer) (d : List (Int)) : Option R := fRun (X n) n T Tryz.f122 ia io (w_, d, ())
theorem e0 (n : Nat) (w_ : D_pack_Writer) (d : List (Int)) : f n w_ d =
  bnd (F_pack_Writer_put.f n (w_.1, w_.2) d) fun u1 =>
  some ((u1.1.1, u1.1.2), ()) := (hideF_eq _).trans (by kernel_rfl)
theorem phi (n : Nat) : ∀ e ∈ (X n).c.Φ, EntryOk Tryz.prog e := allE_cons (mkEntry_ok (F_pack_Writer_put.ok n)) (allE_nil)
theorem ok (n : Nat) : FnOk Tryz.prog 122 ia io (fRun (X n) n T Tryz.f122 ia io) := tree_ok mixed tabIs (phi n) Tryz.func122 (by kernel_rfl) rfl
noncomputable def en (n : Nat) : Entry := mkEntry 122 ia io (fRun (X n) n T Tryz.f122 ia io)
end F_pack_Writer_Digest
end Go.Proofs.YtdlkpmohjhjmfaaGreatDoor

namespace Go.Proofs.YtdlkpmohjhjmfaaGreatDoor
open Go Go.Va Go.Proofs
namespace F_entry_Writer_Version
abbrev ia : List Ai := [.fn (.str 1) [(.p (.r 0 (.int .u8)) (.d .unit))], .dat T_api_Version]
abbrev io : List (Nat × Oi) := []
abbrev R : Type := DOut ia io
noncomputable def X (n : Nat) : Ctx := ⟨⟨tab, [F_pack_Writer_Num.en n, F_pack_Writer_Flag.en n, F_pack_Writer_Int.en n, F_pack_Writer_Digest.en n, F_entry_Writer_Lock.en n, F_entry_Writer_Tags.en n], 0, []⟩, 37, bnOf 0 ia⟩
noncomputable def T : CT := .o
noncomputable def f (n : Nat) (wc0 : D_pack_Writer) (v_ : D_api_Version) : Option R := fRun (X n) n T Tryz.f62 ia io (wc0, v_, ())
theorem e0 (n : Nat) (wc0 : D_pack_Writer) (v_ : D_api_Version) : f n wc0 v_ =
  bnd (F_pack_Writer_Num.f n (wc0.1, wc0.2) v_.1) fun u1 =>
  bnd (F_pack_Writer_Flag.f n (u1.1.1, u1.1.2) v_.2.1) fun u2 =>
  bnd (F_pack_Writer_Int.f n (u2.1.1, u2.1.2) v_.2.2.2.2.2.1) fun u3 =>
  bIf (v_.2.1) (
    some ((u3.1.1, u3.1.2), ())
    ) (
    bnd (F_pack_Writer_Num.f n (u3.1.1, u3.1.2) (IntKind.u64.wrap v_.2.2.1)) fun u4 =>
    bnd (F_pack_Writer_Num.f n (u4.1.1, u4.1.2) v_.2.2.2.1) fun u5 =>
    bnd (F_pack_Writer_Digest.f n (u5.1.1, u5.1.2) v_.2.2.2.2.1) fun u6 =>
    bnd (F_entry_Writer_Lock.f n (u6.1.1, u6.1.2) v_.2.2.2.2.2.2.1) fun u7 =>
    bnd (F_entry_Writer_Tags.f n (u7.1.1, u7.1.2) v_.2.2.2.2.2.2.2.1) fun u8 =>
    some ((u8.1.1, u8.1.2), ())
    ) := (hideF_eq _).trans (by kernel_rfl)
theorem phi (n : Nat) : ∀ e ∈ (X n).c.Φ, EntryOk Tryz.prog e := allE_cons (mkEntry_ok (F_pack_Writer_Num.ok n)) (allE_cons (mkEntry_ok (F_pack_Writer_Flag.ok n)) (allE_cons (mkEntry_ok (F_pack_Writer_Int.ok n)) (allE_cons (mkEntry_ok (F_pack_Writer_Digest.ok n)) (allE_cons (mkEntry_ok (F_entry_Writer_Lock.ok n)) (allE_cons (mkEntry_ok (F_entry_Writer_Tags.ok n)) (allE_nil))))))
theorem ok (n : Nat) : FnOk Tryz.prog 62 ia io (fRun (X n) n T Tryz.f62 ia io) := tree_ok mixed tabIs (phi n) Tryz.func62 (by kernel_rfl) rfl
noncomputable def en (n : Nat) : Entry := mkEntry 62 ia io (fRun (X n) n T Tryz.f62 ia io)
end F_entry_Writer_Version
end Go.Proofs.YtdlkpmohjhjmfaaGreatDoor

namespace Go.Proofs.YtdlkpmohjhjmfaaGreatDoor
open Go Go.Va Go.Proofs
namespace F_ref10_Digest
abbrev ia : List Ai := [.dat (.arr 32 (.int .u8))]
abbrev io : List (Nat × Oi) := [(2, .dat .str)]
abbrev R : Type := DOut ia io
noncomputable def X (n : Nat) : Ctx := ⟨⟨tab, [], 0, []⟩, 17, bnOf 0 ia⟩
abbrev g1 : List Si := [.ref 1 1 (.arr 32 (.int .u8)), .dat 3 .str, .dat 4 (.int .i64), .box 1 (.d (.arr 32 (.int .u8)))]
abbrev g2 : List Si := [.dat 3 .str]
noncomputable def T : CT := (.s .o (.s .o (.s (.s .o (.b (.l g1 .o))) (.r g2 .o))))
noncomputable def J1 (n : Nat) (m : Nat) : ByteArray × Int × (List (Int)) × Unit → Option R := jL (X n) n T (bodyOf Tryz.f71) (endK ia io) g1 [1, 1, 0, 1, 0] [] m
noncomputable def J2 (n : Nat) : ByteArray × Unit → Option R := jR (X n) n T (bodyOf Tryz.f71) (endK ia io) g2 [1, 1, 1] []
noncomputable def f (n : Nat) (d : List (Int)) : Option R := fRun (X n) n T Tryz.f71 ia io (d, ())
theorem e0 (n : Nat) (d : List (Int)) : f n d =
  J1 n n ((⟨#[]⟩ : ByteArray), 0, d, ()) := (hideF_eq _).trans (by kernel_rfl)
theorem e1 (n m : Nat) (out : ByteArray) (i : Int) (d : List (Int)) : J1 n (m + 1) (out, i, d, ()) =
  bIf ((hide (decide (i < (32 : Int))))) (
    gIf (0 ≤ i ∧ i < ((32 : Nat) : Int)) (
      gIf (out.size + (bytesOf ([(List.getD d i.toNat 0)] : List (Int))).size ≤ 4611686018427387904) (
        J1 n m ((out ++ (bytesOf ([(List.getD d i.toNat 0)] : List (Int)))), (IntKind.i64.wrap (i + (1 : Int))), d, ())
        )
      )
    ) (
    J2 n (out, ())
    ) := (hideF_eq _).trans (by kernel_rfl)
theorem e2 (n : Nat) (out : ByteArray) : J2 n (out, ()) =
  some (out, ()) := (hideF_eq _).trans (by kernel_rfl)
theorem phi (n : Nat) : ∀ e ∈ (X n).c.Φ, EntryOk Tryz.prog e := allE_nil
theorem ok (n : Nat) : FnOk Tryz.prog 71 ia io (fRun (X n) n T Tryz.f71 ia io) := tree_ok mixed tabIs (phi n) Tryz.func71 (by kernel_rfl) rfl
noncomputable def en (n : Nat) : Entry := mkEntry 71 ia io (fRun (X n) n T Tryz.f71 ia io)
end F_ref10_Digest
end Go.Proofs.YtdlkpmohjhjmfaaGreatDoor

namespace Go.Proofs.YtdlkpmohjhjmfaaGreatDoor
open Go Go.Va Go.Proofs
namespace F_ref10_Flag
abbrev ia : List Ai := [.dat .bool]
abbrev io : List (Nat × Oi) := [(2, .dat .str)]
abbrev R : Type := DOut ia io
noncomputable def X (n : Nat) : Ctx := ⟨⟨tab, [], 0, []⟩, 4, bnOf 0 ia⟩
noncomputable def T : CT := .o
noncomputable def f (n : Nat) (b : Bool) : Option R := fRun (X n) n T Tryz.f35 ia io (b, ())
theorem e0 (n : Nat) (b : Bool) : f n b =
  bIf (b) (
    some ((⟨#[1]⟩ : ByteArray), ())
    ) (
    some ((⟨#[0]⟩ : ByteArray), ())
    ) := (hideF_eq _).trans (by kernel_rfl)
theorem phi (n : Nat) : ∀ e ∈ (X n).c.Φ, EntryOk Tryz.prog e := allE_nil
theorem ok (n : Nat) : FnOk Tryz.prog 35 ia io (fRun (X n) n T Tryz.f35 ia io) := tree_ok mixed tabIs (phi n) Tryz.func35 (by kernel_rfl) rfl
noncomputable def en (n : Nat) : Entry := mkEntry 35 ia io (fRun (X n) n T Tryz.f35 ia io)
end F_ref10_Flag
end Go.Proofs.YtdlkpmohjhjmfaaGreatDoor

namespace Go.Proofs.YtdlkpmohjhjmfaaGreatDoor
open Go Go.Va Go.Proofs
namespace F_ref10_Int
abbrev ia : List Ai := [.dat (.int .i64)]
abbrev io : List (Nat × Oi) := [(2, .dat .str)]
abbrev R : Type := DOut ia io
noncomputable def X (n : Nat) : Ctx := ⟨⟨tab, [F_ref10_Num.en n, F_ref01_Zig.en n], 0, []⟩, 6, bnOf 0 ia⟩
noncomputable def T : CT := .o
noncomputable def f (n : Nat) (n_ : Int) : Option R := fRun (X n) n T Tryz.f69 ia io (n_, ())
theorem e0 (n : Nat) (n_ : Int) : f n n_ =
  bnd (F_ref01_Zig.f n n_) fun u1 =>
  bnd (F_ref10_Num.f n u1.1) fun u2 =>
  some (u2.1, ()) := (hideF_eq _).trans (by kernel_rfl)
theorem phi (n : Nat) : ∀ e ∈ (X n).c.Φ, EntryOk Tryz.prog e := allE_cons (mkEntry_ok (F_ref10_Num.ok n)) (allE_cons (mkEntry_ok (F_ref01_Zig.ok n)) (allE_nil))
theorem ok (n : Nat) : FnOk Tryz.prog 69 ia io (fRun (X n) n T Tryz.f69 ia io) := tree_ok mixed tabIs (phi n) Tryz.func69 (by kernel_rfl) rfl
noncomputable def en (n : Nat) : Entry := mkEntry 69 ia io (fRun (X n) n T Tryz.f69 ia io)
end F_ref10_Int
end Go.Proofs.YtdlkpmohjhjmfaaGreatDoor

namespace Go.Proofs.YtdlkpmohjhjmfaaGreatDoor
open Go Go.Va Go.Proofs
namespace F_ref10_Text
abbrev ia : List Ai := [.dat .str]
abbrev io : List (Nat × Oi) := [(2, .dat .str)]
abbrev R : Type := DOut ia io
noncomputable def X (n : Nat) : Ctx := ⟨⟨tab, [F_ref10_Num.en n], 0, []⟩, 9, bnOf 0 ia⟩
noncomputable def T : CT := .o
noncomputable def f (n : Nat) (s_ : ByteArray) : Option R := fRun (X n) n T Tryz.f34 ia io (s_, ())
theorem e0 (n : Nat) (s_ : ByteArray) : f n s_ =
  bnd (F_ref10_Num.f n (IntKind.u64.wrap (s_.size : Int))) fun u1 =>
  gIf (u1.1.size + s_.size ≤ 4611686018427387904) (
    some ((u1.1 ++ s_), ())
    ) := (hideF_eq _).trans (by kernel_rfl)
theorem phi (n : Nat) : ∀ e ∈ (X n).c.Φ, EntryOk Tryz.prog e := allE_cons (mkEntry_ok (F_ref10_Num.ok n)) (allE_nil)
theorem ok (n : Nat) : FnOk Tryz.prog 34 ia io (fRun (X n) n T Tryz.f34 ia io) := tree_ok mixed tabIs (phi n) Tryz.func34 (by kernel_rfl) rfl
noncomputable def en (n : Nat) : Entry := mkEntry 34 ia io (fRun (X n) n T Tryz.f34 ia io)
end F_ref10_Text
end Go.Proofs.YtdlkpmohjhjmfaaGreatDoor

namespace Go.Proofs.YtdlkpmohjhjmfaaGreatDoor
open Go Go.Va Go.Proofs
namespace F_ref14_num
abbrev ia : List Ai := [.dat (.int .i64)]
abbrev io : List (Nat × Oi) := [(2, .dat .str)]
abbrev R : Type := DOut ia io
noncomputable def X (n : Nat) : Ctx := ⟨⟨tab, [F_ref10_Num.en n], 0, []⟩, 6, bnOf 0 ia⟩
noncomputable def T : CT := .o
noncomputable def f (n : Nat) (n_ : Int) : Option R := fRun (X n) n T Tryz.f70 ia io (n_, ())
theorem e0 (n : Nat) (n_ : Int) : f n n_ =
  bnd (F_ref10_Num.f n (IntKind.u64.wrap n_)) fun u1 =>
  some (u1.1, ()) := (hideF_eq _).trans (by kernel_rfl)
theorem phi (n : Nat) : ∀ e ∈ (X n).c.Φ, EntryOk Tryz.prog e := allE_cons (mkEntry_ok (F_ref10_Num.ok n)) (allE_nil)
theorem ok (n : Nat) : FnOk Tryz.prog 70 ia io (fRun (X n) n T Tryz.f70 ia io) := tree_ok mixed tabIs (phi n) Tryz.func70 (by kernel_rfl) rfl
noncomputable def en (n : Nat) : Entry := mkEntry 70 ia io (fRun (X n) n T Tryz.f70 ia io)
end F_ref14_num
end Go.Proofs.YtdlkpmohjhjmfaaGreatDoor

namespace Go.Proofs.YtdlkpmohjhjmfaaGreatDoor
open Go Go.Va Go.Proofs
namespace F_ref14_PutLock
abbrev ia : List Ai := [.dat T_api_Lock]
abbrev io : List (Nat × Oi) := [(2, .dat .str)]
abbrev R : Type := DOut ia io
noncomputable def X (n : Nat) : Ctx := ⟨⟨tab, [F_ref10_Flag.en n, F_ref10_Int.en n, F_ref14_num.en n], 0, []⟩, 14, bnOf 0 ia⟩
noncomputable def T : CT := .o
noncomputable def f (n : Nat) (l : D_api_Lock) : Option R := fRun (X n) n T Tryz.f72 ia io (l, ())
theorem e0 (n : Nat) (l : D_api_Lock) : f n l =
  bnd (F_ref14_num.f n l.1) fun u1 =>
  bnd (F_ref10_Int.f n l.2.1) fun u2 =>
  gIf (u1.1.size + u2.1.size ≤ 4611686018427387904) (
    bnd (F_ref10_Flag.f n l.2.2.1) fun u3 =>
    gIf ((u1.1 ++ u2.1).size + u3.1.size ≤ 4611686018427387904) (
      some (((u1.1 ++ u2.1) ++ u3.1), ())
      )
    ) := (hideF_eq _).trans (by kernel_rfl)
theorem phi (n : Nat) : ∀ e ∈ (X n).c.Φ, EntryOk Tryz.prog e := allE_cons (mkEntry_ok (F_ref10_Flag.ok n)) (allE_cons (mkEntry_ok (F_ref10_Int.ok n)) (allE_cons (mkEntry_ok (F_ref14_num.ok n)) (allE_nil)))
theorem ok (n : Nat) : FnOk Tryz.prog 72 ia io (fRun (X n) n T Tryz.f72 ia io) := tree_ok mixed tabIs (phi n) Tryz.func72 (by kernel_rfl) rfl
noncomputable def en (n : Nat) : Entry := mkEntry 72 ia io (fRun (X n) n T Tryz.f72 ia io)
end F_ref14_PutLock
end Go.Proofs.YtdlkpmohjhjmfaaGreatDoor

namespace Go.Proofs.YtdlkpmohjhjmfaaGreatDoor
open Go Go.Va Go.Proofs
namespace F_ref14_PutTags
abbrev ia : List Ai := [.dat (.slice T_api_Tag)]
abbrev io : List (Nat × Oi) := [(2, .dat .str)]
abbrev R : Type := DOut ia io
noncomputable def X (n : Nat) : Ctx := ⟨⟨tab, [F_ref10_Text.en n, F_ref14_num.en n], 0, []⟩, 30, bnOf 0 ia⟩
abbrev g1 : List Si := [.dat 0 (.slice T_api_Tag), .dat 3 .str, .dat 4 (.int .i64)]
abbrev g2 : List Si := [.dat 3 .str]
noncomputable def T : CT := (.s .o (.s .o (.s (.s .o (.b (.l g1 .o))) (.r g2 .o))))
noncomputable def J1 (n : Nat) (m : Nat) : (List (D_api_Tag)) × ByteArray × Int × Unit → Option R := jL (X n) n T (bodyOf Tryz.f73) (endK ia io) g1 [1, 1, 0, 1, 0] [] m
noncomputable def J2 (n : Nat) : ByteArray × Unit → Option R := jR (X n) n T (bodyOf Tryz.f73) (endK ia io) g2 [1, 1, 1] []
noncomputable def f (n : Nat) (l : List (D_api_Tag)) : Option R := fRun (X n) n T Tryz.f73 ia io (l, ())
theorem e0 (n : Nat) (l : List (D_api_Tag)) : f n l =
  bnd (F_ref14_num.f n ((l.length : Nat) : Int)) fun u1 =>
  J1 n n (l, u1.1, 0, ()) := (hideF_eq _).trans (by kernel_rfl)
theorem e1 (n m : Nat) (l : List (D_api_Tag)) (s_ : ByteArray) (i : Int) : J1 n (m + 1) (l, s_, i, ()) =
  bIf ((hide (decide (i < ((l.length : Nat) : Int))))) (
    gIf (0 ≤ i ∧ i < ((l.length : Nat) : Int)) (
      bnd (F_ref10_Text.f n ((List.getD l i.toNat (Va.dflt T_api_Tag)).1)) fun u1 =>
      gIf (0 ≤ i ∧ i < ((l.length : Nat) : Int)) (
        bnd (F_ref10_Text.f n (((List.getD l i.toNat (Va.dflt T_api_Tag)).2).1)) fun u2 =>
        gIf (u1.1.size + u2.1.size ≤ 4611686018427387904) (
          gIf (s_.size + (u1.1 ++ u2.1).size ≤ 4611686018427387904) (
            J1 n m (l, (s_ ++ (u1.1 ++ u2.1)), (IntKind.i64.wrap (i + (1 : Int))), ())
            )
          )
        )
      )
    ) (
    J2 n (s_, ())
    ) := (hideF_eq _).trans (by kernel_rfl)
theorem e2 (n : Nat) (s_ : ByteArray) : J2 n (s_, ()) =
  some (s_, ()) := (hideF_eq _).trans (by kernel_rfl)
theorem phi (n : Nat) : ∀ e ∈ (X n).c.Φ, EntryOk Tryz.prog e := allE_cons (mkEntry_ok (F_ref10_Text.ok n)) (allE_cons (mkEntry_ok (F_ref14_num.ok n)) (allE_nil))
theorem ok (n : Nat) : FnOk Tryz.prog 73 ia io (fRun (X n) n T Tryz.f73 ia io) := tree_ok mixed tabIs (phi n) Tryz.func73 (by kernel_rfl) rfl
noncomputable def en (n : Nat) : Entry := mkEntry 73 ia io (fRun (X n) n T Tryz.f73 ia io)
end F_ref14_PutTags
end Go.Proofs.YtdlkpmohjhjmfaaGreatDoor

namespace Go.Proofs.YtdlkpmohjhjmfaaGreatDoor
open Go Go.Va Go.Proofs
namespace F_ref14_PutVersion
abbrev ia : List Ai := [.dat T_api_Version]
abbrev io : List (Nat × Oi) := [(2, .dat .str)]
abbrev R : Type := DOut ia io
noncomputable def X (n : Nat) : Ctx := ⟨⟨tab, [F_ref10_Num.en n, F_ref10_Flag.en n, F_ref10_Int.en n, F_ref14_num.en n, F_ref10_Digest.en n, F_ref14_PutLock.en n, F_ref14_PutTags.en n], 0, []⟩, 39, bnOf 0 ia⟩
noncomputable def T : CT := .o
noncomputable def f (n : Nat) (v_ : D_api_Version) : Option R := fRun (X n) n T Tryz.f37 ia io (v_, ())
theorem e0 (n : Nat) (v_ : D_api_Version) : f n v_ =
  bnd (F_ref10_Num.f n v_.1) fun u1 =>
  bnd (F_ref10_Flag.f n v_.2.1) fun u2 =>
  gIf (u1.1.size + u2.1.size ≤ 4611686018427387904) (
    bnd (F_ref10_Int.f n v_.2.2.2.2.2.1) fun u3 =>
    gIf ((u1.1 ++ u2.1).size + u3.1.size ≤ 4611686018427387904) (
      bIf (v_.2.1) (
        some (((u1.1 ++ u2.1) ++ u3.1), ())
        ) (
        bnd (F_ref14_num.f n v_.2.2.1) fun u4 =>
        gIf (((u1.1 ++ u2.1) ++ u3.1).size + u4.1.size ≤ 4611686018427387904) (
          bnd (F_ref10_Num.f n v_.2.2.2.1) fun u5 =>
          gIf ((((u1.1 ++ u2.1) ++ u3.1) ++ u4.1).size + u5.1.size ≤ 4611686018427387904) (
            bnd (F_ref10_Digest.f n v_.2.2.2.2.1) fun u6 =>
            gIf (((((u1.1 ++ u2.1) ++ u3.1) ++ u4.1) ++ u5.1).size + u6.1.size ≤ 4611686018427387904) (
              bnd (F_ref14_PutLock.f n v_.2.2.2.2.2.2.1) fun u7 =>
              gIf ((((((u1.1 ++ u2.1) ++ u3.1) ++ u4.1) ++ u5.1) ++ u6.1).size + u7.1.size ≤ 4611686018427387904) (
                bnd (F_ref14_PutTags.f n v_.2.2.2.2.2.2.2.1) fun u8 =>
                gIf (((((((u1.1 ++ u2.1) ++ u3.1) ++ u4.1) ++ u5.1) ++ u6.1) ++ u7.1).size + u8.1.size ≤ 4611686018427387904) (
                  some ((((((((u1.1 ++ u2.1) ++ u3.1) ++ u4.1) ++ u5.1) ++ u6.1) ++ u7.1) ++ u8.1), ())
                  )
                )
              )
            )
          )
        )
      )
    ) := (hideF_eq _).trans (by kernel_rfl)
theorem phi (n : Nat) : ∀ e ∈ (X n).c.Φ, EntryOk Tryz.prog e := allE_cons (mkEntry_ok (F_ref10_Num.ok n)) (allE_cons (mkEntry_ok (F_ref10_Flag.ok n)) (allE_cons (mkEntry_ok (F_ref10_Int.ok n)) (allE_cons (mkEntry_ok (F_ref14_num.ok n)) (allE_cons (mkEntry_ok (F_ref10_Digest.ok n)) (allE_cons (mkEntry_ok (F_ref14_PutLock.ok n)) (allE_cons (mkEntry_ok (F_ref14_PutTags.ok n)) (allE_nil)))))))
theorem ok (n : Nat) : FnOk Tryz.prog 37 ia io (fRun (X n) n T Tryz.f37 ia io) := tree_ok mixed tabIs (phi n) Tryz.func37 (by kernel_rfl) rfl
noncomputable def en (n : Nat) : Entry := mkEntry 37 ia io (fRun (X n) n T Tryz.f37 ia io)
end F_ref14_PutVersion
end Go.Proofs.YtdlkpmohjhjmfaaGreatDoor

namespace Go.Proofs.YtdlkpmohjhjmfaaGreatDoor
open Go Go.Va Go.Proofs
namespace F_slices_Clip_byte
abbrev ia : List Ai := [.dat (.slice (.int .u8))]
abbrev io : List (Nat × Oi) := [(2, .dat (.slice (.int .u8)))]
abbrev R : Type := DOut ia io
noncomputable def X (n : Nat) : Ctx := ⟨⟨tab, [], 0, []⟩, 9, bnOf 0 ia⟩
noncomputable def T : CT := .o
noncomputable def f (n : Nat) (s_ : List (Int)) : Option R := fRun (X n) n T Tryz.f119 ia io (s_, ())
theorem e0 (n : Nat) (s_ : List (Int)) : f n s_ =
  gIf (0 ≤ ((s_.length : Nat) : Int) ∧ ((s_.length : Nat) : Int) ≤ ((s_.length : Nat) : Int)) (
    gIf (0 ≤ (0 : Int) ∧ (0 : Int) ≤ ((s_.length : Nat) : Int)) (
      gIf (((s_.length : Nat) : Int) ≤ ((s_.length : Nat) : Int) ∧ ((s_.length : Nat) : Int) ≤ ((s_.length : Nat) : Int) ∧ true = true) (
        some (((s_.take (((s_.length : Nat) : Int).toNat)).drop 0), ())
        )
      )
    ) := (hideF_eq _).trans (by kernel_rfl)
theorem phi (n : Nat) : ∀ e ∈ (X n).c.Φ, EntryOk Tryz.prog e := allE_nil
theorem ok (n : Nat) : FnOk Tryz.prog 119 ia io (fRun (X n) n T Tryz.f119 ia io) := tree_ok mixed tabIs (phi n) Tryz.func119 (by kernel_rfl) rfl
noncomputable def en (n : Nat) : Entry := mkEntry 119 ia io (fRun (X n) n T Tryz.f119 ia io)
end F_slices_Clip_byte
end Go.Proofs.YtdlkpmohjhjmfaaGreatDoor

namespace Go.Proofs.YtdlkpmohjhjmfaaGreatDoor
open Go Go.Va Go.Proofs
namespace F_slices_Clone_byte
abbrev ia : List Ai := [.dat (.slice (.int .u8))]
abbrev io : List (Nat × Oi) := [(2, .val (.r 0 (.int .u8)))]
abbrev R : Type := DOut ia io
noncomputable def X (n : Nat) : Ctx := ⟨⟨tab, [], 0, []⟩, 8, bnOf 0 ia⟩
noncomputable def T : CT := .o
noncomputable def f (n : Nat) (s_ : List (Int)) : Option R := fRun (X n) n T Tryz.f120 ia io (s_, ())
theorem e0 (n : Nat) (s_ : List (Int)) : f n s_ =
  bIf ((s_.length == 0)) (
    bothC (
      some ([], ())
      ) (
      gIf ((([] : List (Int)).length + s_.length) * 1 ≤ 70368744177664) (
        some ((([] : List (Int)) ++ s_), ())
        )
      )
    ) (
    gIf ((([] : List (Int)).length + s_.length) * 1 ≤ 70368744177664) (
      some ((([] : List (Int)) ++ s_), ())
      )
    ) := (hideF_eq _).trans (by kernel_rfl)
theorem phi (n : Nat) : ∀ e ∈ (X n).c.Φ, EntryOk Tryz.prog e := allE_nil
theorem ok (n : Nat) : FnOk Tryz.prog 120 ia io (fRun (X n) n T Tryz.f120 ia io) := tree_ok mixed tabIs (phi n) Tryz.func120 (by kernel_rfl) rfl
noncomputable def en (n : Nat) : Entry := mkEntry 120 ia io (fRun (X n) n T Tryz.f120 ia io)
end F_slices_Clone_byte
end Go.Proofs.YtdlkpmohjhjmfaaGreatDoor

namespace Go.Proofs.YtdlkpmohjhjmfaaGreatDoor
open Go Go.Va Go.Proofs
namespace F_pack_Writer_Out
abbrev ia : List Ai := [.ptr (.p (.r 0 (.int .u8)) (.d .unit))]
abbrev io : List (Nat × Oi) := [(2, .dat (.slice (.int .u8)))]
abbrev R : Type := DOut ia io
noncomputable def X (n : Nat) : Ctx := ⟨⟨tab, [F_slices_Clip_byte.en n, F_slices_Clone_byte.en n], 0, []⟩, 11, bnOf 0 ia⟩
noncomputable def T : CT := .o
noncomputable def f (n : Nat) (w_ : D_pack_Writer) : Option R := fRun (X n) n T Tryz.f59 ia io (w_, ())
theorem e0 (n : Nat) (w_ : D_pack_Writer) : f n w_ =
  bIf ((hide false)) (
    some ([], (w_.1, w_.2), ())
    ) (
    bnd (F_slices_Clone_byte.f n w_.1) fun u1 =>
    bnd (F_slices_Clip_byte.f n u1.1) fun u2 =>
    some (u2.1, (w_.1, w_.2), ())
    ) := (hideF_eq _).trans (by kernel_rfl)
theorem phi (n : Nat) : ∀ e ∈ (X n).c.Φ, EntryOk Tryz.prog e := allE_cons (mkEntry_ok (F_slices_Clip_byte.ok n)) (allE_cons (mkEntry_ok (F_slices_Clone_byte.ok n)) (allE_nil))
theorem ok (n : Nat) : FnOk Tryz.prog 59 ia io (fRun (X n) n T Tryz.f59 ia io) := tree_ok mixed tabIs (phi n) Tryz.func59 (by kernel_rfl) rfl
noncomputable def en (n : Nat) : Entry := mkEntry 59 ia io (fRun (X n) n T Tryz.f59 ia io)
end F_pack_Writer_Out
end Go.Proofs.YtdlkpmohjhjmfaaGreatDoor

namespace Go.Proofs.YtdlkpmohjhjmfaaGreatDoor
open Go Go.Va Go.Proofs
namespace F_pack_Reader_fail
abbrev ia : List Ai := [.ptr (.d T_pack_Reader), .dat (.int .i64)]
abbrev io : List (Nat × Oi) := []
abbrev R : Type := DOut ia io
noncomputable def X (n : Nat) : Ctx := ⟨⟨tab, [], 0, []⟩, 13, bnOf 0 ia⟩
noncomputable def T : CT := .o
noncomputable def f (n : Nat) (r : D_pack_Reader) (e_ : Int) : Option R := fRun (X n) n T Tryz.f217 ia io (r, e_, ())
theorem e0 (n : Nat) (r : D_pack_Reader) (e_ : Int) : f n r e_ =
  bIf ((hide (r.2.1 == (0 : Int)))) (
    some ((r.1, (e_, r.2.2)), ())
    ) (
    some (r, ())
    ) := (hideF_eq _).trans (by kernel_rfl)
theorem phi (n : Nat) : ∀ e ∈ (X n).c.Φ, EntryOk Tryz.prog e := allE_nil
theorem ok (n : Nat) : FnOk Tryz.prog 217 ia io (fRun (X n) n T Tryz.f217 ia io) := tree_ok mixed tabIs (phi n) Tryz.func217 (by kernel_rfl) rfl
noncomputable def en (n : Nat) : Entry := mkEntry 217 ia io (fRun (X n) n T Tryz.f217 ia io)
end F_pack_Reader_fail
end Go.Proofs.YtdlkpmohjhjmfaaGreatDoor

namespace Go.Proofs.YtdlkpmohjhjmfaaGreatDoor
open Go Go.Va Go.Proofs
namespace F_pack_Reader_take
abbrev ia : List Ai := [.ptr (.d T_pack_Reader), .dat (.int .i64)]
abbrev io : List (Nat × Oi) := [(4, .dat (.slice (.int .u8)))]
abbrev R : Type := DOut ia io
noncomputable def X (n : Nat) : Ctx := ⟨⟨tab, [F_pack_Reader_fail.en n], 0, []⟩, 43, bnOf 0 ia⟩
abbrev g1 : List Si := [.ref 0 500000 T_pack_Reader, .dat 1 (.int .i64), .box 500000 (.d T_pack_Reader)]
noncomputable def T : CT := (.s .o (.s .o (.r g1 .o)))
noncomputable def J1 (n : Nat) : Int × D_pack_Reader × Unit → Option R := jR (X n) n T (bodyOf Tryz.f206) (endK ia io) g1 [1, 1] []
noncomputable def f (n : Nat) (r : D_pack_Reader) (n_ : Int) : Option R := fRun (X n) n T Tryz.f206 ia io (r, n_, ())
theorem e0 (n : Nat) (r : D_pack_Reader) (n_ : Int) : f n r n_ =
  bIf ((hide (r.2.1 == (0 : Int)))) (
    bIf ((hide (decide (n_ > ((r.1.length : Nat) : Int))))) (
      bnd (F_pack_Reader_fail.f n r 3) fun u1 =>
      J1 n (n_, u1.1, ())
      ) (
      J1 n (n_, r, ())
      )
    ) (
    J1 n (n_, r, ())
    ) := (hideF_eq _).trans (by kernel_rfl)
theorem e1 (n : Nat) (n_ : Int) (r : D_pack_Reader) : J1 n (n_, r, ()) =
  bIf ((hide (r.2.1 != (0 : Int)))) (
    some ([], r, ())
    ) (
    gIf (0 ≤ n_ ∧ n_ ≤ ((r.1.length : Nat) : Int)) (
      gIf (0 ≤ (0 : Int) ∧ (0 : Int) ≤ n_) (
        gIf (0 ≤ ((r.1.length : Nat) : Int) ∧ ((r.1.length : Nat) : Int) ≤ ((r.1.length : Nat) : Int)) (
          gIf (0 ≤ n_ ∧ n_ ≤ ((r.1.length : Nat) : Int)) (
            some (((r.1.take n_.toNat).drop 0), (((r.1.take ((((r.1.length : Nat) : Int)).toNat)).drop n_.toNat), r.2), ())
            )
          )
        )
      )
    ) := (hideF_eq _).trans (by kernel_rfl)
theorem phi (n : Nat) : ∀ e ∈ (X n).c.Φ, EntryOk Tryz.prog e := allE_cons (mkEntry_ok (F_pack_Reader_fail.ok n)) (allE_nil)
theorem ok (n : Nat) : FnOk Tryz.prog 206 ia io (fRun (X n) n T Tryz.f206 ia io) := tree_ok mixed tabIs (phi n) Tryz.func206 (by kernel_rfl) rfl
noncomputable def en (n : Nat) : Entry := mkEntry 206 ia io (fRun (X n) n T Tryz.f206 ia io)
end F_pack_Reader_take
end Go.Proofs.YtdlkpmohjhjmfaaGreatDoor

namespace Go.Proofs.YtdlkpmohjhjmfaaGreatDoor
open Go Go.Va Go.Proofs
namespace F_pack_Reader_Num
abbrev ia : List Ai := [.ptr (.d T_pack_Reader)]
abbrev io : List (Nat × Oi) := [(2, .dat (.int .u64))]
abbrev R : Type := DOut ia io
noncomputable def X (n : Nat) : Ctx := ⟨⟨tab, [F_pack_Reader_take.en n, F_pack_Reader_fail.en n, F_bits_Unpack.en n], 0, []⟩, 33, bnOf 0 ia⟩
abbrev g1 : List Si := [.ref 0 500000 T_pack_Reader, .box 500000 (.d T_pack_Reader)]
noncomputable def T : CT := (.s .o (.s .o (.r g1 .o)))
noncomputable def J1 (n : Nat) : D_pack_Reader × Unit → Option R := jR (X n) n T (bodyOf Tryz.f215) (endK ia io) g1 [1, 1] []
noncomputable def f (n : Nat) (r : D_pack_Reader) : Option R := fRun (X n) n T Tryz.f215 ia io (r, ())
theorem e0 (n : Nat) (r : D_pack_Reader) : f n r =
  bIf ((hide false)) (
    some (0, r, ())
    ) (
    bIf ((hide (r.2.1 != (0 : Int)))) (
      some (0, r, ())
      ) (
      J1 n (r, ())
      )
    ) := (hideF_eq _).trans (by kernel_rfl)
theorem e1 (n : Nat) (r : D_pack_Reader) : J1 n (r, ()) =
  bnd (F_bits_Unpack.f n r.1) fun u1 =>
  bIf ((hide (u1.2.2.1 != (0 : Int)))) (
    bnd (F_pack_Reader_fail.f n r u1.2.2.1) fun u2 =>
    some (0, u2.1, ())
    ) (
    bnd (F_pack_Reader_take.f n r u1.2.1) fun u3 =>
    some (u1.1, u3.2.1, ())
    ) := (hideF_eq _).trans (by kernel_rfl)
theorem phi (n : Nat) : ∀ e ∈ (X n).c.Φ, EntryOk Tryz.prog e := allE_cons (mkEntry_ok (F_pack_Reader_take.ok n)) (allE_cons (mkEntry_ok (F_pack_Reader_fail.ok n)) (allE_cons (mkEntry_ok (F_bits_Unpack.ok n)) (allE_nil)))
theorem ok (n : Nat) : FnOk Tryz.prog 215 ia io (fRun (X n) n T Tryz.f215 ia io) := tree_ok mixed tabIs (phi n) Tryz.func215 (by kernel_rfl) rfl
noncomputable def en (n : Nat) : Entry := mkEntry 215 ia io (fRun (X n) n T Tryz.f215 ia io)
end F_pack_Reader_Num
end Go.Proofs.YtdlkpmohjhjmfaaGreatDoor

namespace Go.Proofs.YtdlkpmohjhjmfaaGreatDoor
open Go Go.Va Go.Proofs
namespace F_pack_Reader_Count
abbrev ia : List Ai := [.ptr (.d T_pack_Reader), .dat (.int .i64)]
abbrev io : List (Nat × Oi) := [(4, .dat (.int .i64))]
abbrev R : Type := DOut ia io
noncomputable def X (n : Nat) : Ctx := ⟨⟨tab, [F_pack_Reader_Num.en n, F_pack_Reader_fail.en n], 0, []⟩, 29, bnOf 0 ia⟩
abbrev g1 : List Si := [.ref 0 500000 T_pack_Reader, .dat 1 (.int .i64), .dat 5 (.int .u64), .box 500000 (.d T_pack_Reader)]
abbrev g2 : List Si := [.ref 0 500000 T_pack_Reader, .dat 5 (.int .u64), .dat 24 .bool, .box 500000 (.d T_pack_Reader)]
abbrev g3 : List Si := [.dat 5 (.int .u64), .box 500000 (.d T_pack_Reader)]
noncomputable def T : CT := (.s .o (.s .o (.s .o (.r g1 (.s (.s .o (.r g2 .o)) (.r g3 .o))))))
noncomputable def J1 (n : Nat) : Int × Int × D_pack_Reader × Unit → Option R := jR (X n) n T (bodyOf Tryz.f205) (endK ia io) g1 [1, 1, 1] []
noncomputable def J2 (n : Nat) : Int × Bool × D_pack_Reader × Unit → Option R := jR (X n) n T (bodyOf Tryz.f205) (endK ia io) g2 [1, 1, 1, 0, 1] []
noncomputable def J3 (n : Nat) : Int × D_pack_Reader × Unit → Option R := jR (X n) n T (bodyOf Tryz.f205) (endK ia io) g3 [1, 1, 1, 1] []
noncomputable def f (n : Nat) (r : D_pack_Reader) (most : Int) : Option R := fRun (X n) n T Tryz.f205 ia io (r, most, ())
theorem e0 (n : Nat) (r : D_pack_Reader) (most : Int) : f n r most =
  bnd (F_pack_Reader_Num.f n r) fun u1 =>
  bIf ((hide false)) (
    some (0, u1.2.1, ())
    ) (
    bIf ((hide (u1.2.1.2.1 != (0 : Int)))) (
      some (0, u1.2.1, ())
      ) (
      J1 n (most, u1.1, u1.2.1, ())
      )
    ) := (hideF_eq _).trans (by kernel_rfl)
theorem e1 (n : Nat) (most : Int) (n_ : Int) (r : D_pack_Reader) : J1 n (most, n_, r, ()) =
  bIf ((hide (decide (most < (0 : Int))))) (
    J2 n (n_, true, r, ())
    ) (
    J2 n (n_, (hide (decide (n_ > (IntKind.u64.wrap most)))), r, ())
    ) := (hideF_eq _).trans (by kernel_rfl)
theorem e2 (n : Nat) (n_ : Int) (t24 : Bool) (r : D_pack_Reader) : J2 n (n_, t24, r, ()) =
  bIf (t24) (
    bnd (F_pack_Reader_fail.f n r 17) fun u1 =>
    some (0, u1.1, ())
    ) (
    J3 n (n_, r, ())
    ) := (hideF_eq _).trans (by kernel_rfl)
theorem e3 (n : Nat) (n_ : Int) (b500000 : D_pack_Reader) : J3 n (n_, b500000, ()) =
  some ((IntKind.i64.wrap n_), b500000, ()) := (hideF_eq _).trans (by kernel_rfl)
theorem phi (n : Nat) : ∀ e ∈ (X n).c.Φ, EntryOk Tryz.prog e := allE_cons (mkEntry_ok (F_pack_Reader_Num.ok n)) (allE_cons (mkEntry_ok (F_pack_Reader_fail.ok n)) (allE_nil))
theorem ok (n : Nat) : FnOk Tryz.prog 205 ia io (fRun (X n) n T Tryz.f205 ia io) := tree_ok mixed tabIs (phi n) Tryz.func205 (by kernel_rfl) rfl
noncomputable def en (n : Nat) : Entry := mkEntry 205 ia io (fRun (X n) n T Tryz.f205 ia io)
end F_pack_Reader_Count
end Go.Proofs.YtdlkpmohjhjmfaaGreatDoor

namespace Go.Proofs.YtdlkpmohjhjmfaaGreatDoor
open Go Go.Va Go.Proofs
namespace F_entry_Reader_Small
abbrev ia : List Ai := [.fn (.str 1) [(.d T_pack_Reader)]]
abbrev io : List (Nat × Oi) := [(2, .dat (.int .i64))]
abbrev R : Type := DOut ia io
noncomputable def X (n : Nat) : Ctx := ⟨⟨tab, [F_pack_Reader_Count.en n], 0, []⟩, 6, bnOf 0 ia⟩
noncomputable def T : CT := .o
noncomputable def f (n : Nat) (rc0 : D_pack_Reader) : Option R := fRun (X n) n T Tryz.f154 ia io (rc0, ())
theorem e0 (n : Nat) (rc0 : D_pack_Reader) : f n rc0 =
  bnd (F_pack_Reader_Count.f n rc0 1099511627776) fun u1 =>
  some (u1.1, u1.2.1, ()) := (hideF_eq _).trans (by kernel_rfl)
theorem phi (n : Nat) : ∀ e ∈ (X n).c.Φ, EntryOk Tryz.prog e := allE_cons (mkEntry_ok (F_pack_Reader_Count.ok n)) (allE_nil)
theorem ok (n : Nat) : FnOk Tryz.prog 154 ia io (fRun (X n) n T Tryz.f154 ia io) := tree_ok mixed tabIs (phi n) Tryz.func154 (by kernel_rfl) rfl
noncomputable def en (n : Nat) : Entry := mkEntry 154 ia io (fRun (X n) n T Tryz.f154 ia io)
end F_entry_Reader_Small
end Go.Proofs.YtdlkpmohjhjmfaaGreatDoor

namespace Go.Proofs.YtdlkpmohjhjmfaaGreatDoor
open Go Go.Va Go.Proofs
namespace F_pack_Reader_Flag
abbrev ia : List Ai := [.ptr (.d T_pack_Reader)]
abbrev io : List (Nat × Oi) := [(2, .dat .bool)]
abbrev R : Type := DOut ia io
noncomputable def X (n : Nat) : Ctx := ⟨⟨tab, [F_pack_Reader_take.en n, F_pack_Reader_fail.en n], 0, []⟩, 33, bnOf 0 ia⟩
abbrev g1 : List Si := [.ref 0 500000 T_pack_Reader, .dat 3 (.slice (.int .u8)), .box 500000 (.d T_pack_Reader)]
noncomputable def T : CT := (.s .o (.s .o (.s .o (.s .o (.r g1 .o)))))
noncomputable def J1 (n : Nat) : (List (Int)) × D_pack_Reader × Unit → Option R := jR (X n) n T (bodyOf Tryz.f235) (endK ia io) g1 [1, 1, 1, 1] []
noncomputable def f (n : Nat) (r : D_pack_Reader) : Option R := fRun (X n) n T Tryz.f235 ia io (r, ())
theorem e0 (n : Nat) (r : D_pack_Reader) : f n r =
  bIf ((hide false)) (
    some (false, r, ())
    ) (
    bnd (F_pack_Reader_take.f n r 1) fun u1 =>
    bIf ((hide (u1.2.1.2.1 == (0 : Int)))) (
      gIf (0 ≤ (0 : Int) ∧ (0 : Int) < ((u1.1.length : Nat) : Int)) (
        gNo ((1 : Int) < 0) (
          bIf ((hide ((shrI .u8 (List.getD u1.1 0 0) 1) != (0 : Int)))) (
            bnd (F_pack_Reader_fail.f n u1.2.1 2) fun u2 =>
            J1 n (u1.1, u2.1, ())
            ) (
            J1 n (u1.1, u1.2.1, ())
            )
          )
        )
      ) (
      J1 n (u1.1, u1.2.1, ())
      )
    ) := (hideF_eq _).trans (by kernel_rfl)
theorem e1 (n : Nat) (b : List (Int)) (r : D_pack_Reader) : J1 n (b, r, ()) =
  bIf ((hide (r.2.1 == (0 : Int)))) (
    gIf (0 ≤ (0 : Int) ∧ (0 : Int) < ((b.length : Nat) : Int)) (
      some ((hide ((List.getD b 0 0) == (1 : Int))), r, ())
      )
    ) (
    some (false, r, ())
    ) := (hideF_eq _).trans (by kernel_rfl)
theorem phi (n : Nat) : ∀ e ∈ (X n).c.Φ, EntryOk Tryz.prog e := allE_cons (mkEntry_ok (F_pack_Reader_take.ok n)) (allE_cons (mkEntry_ok (F_pack_Reader_fail.ok n)) (allE_nil))
theorem ok (n : Nat) : FnOk Tryz.prog 235 ia io (fRun (X n) n T Tryz.f235 ia io) := tree_ok mixed tabIs (phi n) Tryz.func235 (by kernel_rfl) rfl
noncomputable def en (n : Nat) : Entry := mkEntry 235 ia io (fRun (X n) n T Tryz.f235 ia io)
end F_pack_Reader_Flag
end Go.Proofs.YtdlkpmohjhjmfaaGreatDoor

namespace Go.Proofs.YtdlkpmohjhjmfaaGreatDoor
open Go Go.Va Go.Proofs
namespace F_pack_Reader_Int
abbrev ia : List Ai := [.ptr (.d T_pack_Reader)]
abbrev io : List (Nat × Oi) := [(2, .dat (.int .i64))]
abbrev R : Type := DOut ia io
noncomputable def X (n : Nat) : Ctx := ⟨⟨tab, [F_pack_Reader_Num.en n, F_bits_Zag.en n], 0, []⟩, 6, bnOf 0 ia⟩
noncomputable def T : CT := .o
noncomputable def f (n : Nat) (r : D_pack_Reader) : Option R := fRun (X n) n T Tryz.f236 ia io (r, ())
theorem e0 (n : Nat) (r : D_pack_Reader) : f n r =
  bnd (F_pack_Reader_Num.f n r) fun u1 =>
  bnd (F_bits_Zag.f n u1.1) fun u2 =>
  some (u2.1, u1.2.1, ()) := (hideF_eq _).trans (by kernel_rfl)
theorem phi (n : Nat) : ∀ e ∈ (X n).c.Φ, EntryOk Tryz.prog e := allE_cons (mkEntry_ok (F_pack_Reader_Num.ok n)) (allE_cons (mkEntry_ok (F_bits_Zag.ok n)) (allE_nil))
theorem ok (n : Nat) : FnOk Tryz.prog 236 ia io (fRun (X n) n T Tryz.f236 ia io) := tree_ok mixed tabIs (phi n) Tryz.func236 (by kernel_rfl) rfl
noncomputable def en (n : Nat) : Entry := mkEntry 236 ia io (fRun (X n) n T Tryz.f236 ia io)
end F_pack_Reader_Int
end Go.Proofs.YtdlkpmohjhjmfaaGreatDoor

namespace Go.Proofs.YtdlkpmohjhjmfaaGreatDoor
open Go Go.Va Go.Proofs
namespace F_pack_Reader_Text
abbrev ia : List Ai := [.ptr (.d T_pack_Reader)]
abbrev io : List (Nat × Oi) := [(2, .dat .str)]
abbrev R : Type := DOut ia io
noncomputable def X (n : Nat) : Ctx := ⟨⟨tab, [F_pack_Reader_Count.en n, F_pack_Reader_take.en n], 0, []⟩, 12, bnOf 0 ia⟩
noncomputable def T : CT := .o
noncomputable def f (n : Nat) (r : D_pack_Reader) : Option R := fRun (X n) n T Tryz.f155 ia io (r, ())
theorem e0 (n : Nat) (r : D_pack_Reader) : f n r =
  bnd (F_pack_Reader_Count.f n r 16384) fun u1 =>
  bIf ((hide false)) (
    some ((⟨#[]⟩ : ByteArray), u1.2.1, ())
    ) (
    bnd (F_pack_Reader_take.f n u1.2.1 u1.1) fun u2 =>
    some ((bytesOf u2.1), u2.2.1, ())
    ) := (hideF_eq _).trans (by kernel_rfl)
theorem phi (n : Nat) : ∀ e ∈ (X n).c.Φ, EntryOk Tryz.prog e := allE_cons (mkEntry_ok (F_pack_Reader_Count.ok n)) (allE_cons (mkEntry_ok (F_pack_Reader_take.ok n)) (allE_nil))
theorem ok (n : Nat) : FnOk Tryz.prog 155 ia io (fRun (X n) n T Tryz.f155 ia io) := tree_ok mixed tabIs (phi n) Tryz.func155 (by kernel_rfl) rfl
noncomputable def en (n : Nat) : Entry := mkEntry 155 ia io (fRun (X n) n T Tryz.f155 ia io)
end F_pack_Reader_Text
end Go.Proofs.YtdlkpmohjhjmfaaGreatDoor

namespace Go.Proofs.YtdlkpmohjhjmfaaGreatDoor
open Go Go.Va Go.Proofs
namespace F_entry_Reader_Default
abbrev ia : List Ai := [.fn (.str 1) [(.d T_pack_Reader)]]
abbrev io : List (Nat × Oi) := [(2, .cel (.d T_api_Default))]
abbrev R : Type := DOut ia io
noncomputable def X (n : Nat) : Ctx := ⟨⟨tab, [F_entry_Reader_Small.en n], 0, []⟩, 11, bnOf 0 ia⟩
noncomputable def T : CT := .o
noncomputable def f (n : Nat) (rc0 : D_pack_Reader) : Option R := fRun (X n) n T Tryz.f207 ia io (rc0, ())
theorem e0 (n : Nat) (rc0 : D_pack_Reader) : f n rc0 =
  bnd (F_entry_Reader_Small.f n rc0) fun u1 =>
  bnd (F_entry_Reader_Small.f n u1.2.1) fun u2 =>
  some ((u1.1, (u2.1, ())), u2.2.1, ()) := (hideF_eq _).trans (by kernel_rfl)
theorem phi (n : Nat) : ∀ e ∈ (X n).c.Φ, EntryOk Tryz.prog e := allE_cons (mkEntry_ok (F_entry_Reader_Small.ok n)) (allE_nil)
theorem ok (n : Nat) : FnOk Tryz.prog 207 ia io (fRun (X n) n T Tryz.f207 ia io) := tree_ok mixed tabIs (phi n) Tryz.func207 (by kernel_rfl) rfl
noncomputable def en (n : Nat) : Entry := mkEntry 207 ia io (fRun (X n) n T Tryz.f207 ia io)
end F_entry_Reader_Default
end Go.Proofs.YtdlkpmohjhjmfaaGreatDoor

namespace Go.Proofs.YtdlkpmohjhjmfaaGreatDoor
open Go Go.Va Go.Proofs
namespace F_entry_Reader_Grants
abbrev ia : List Ai := [.fn (.str 1) [(.d T_pack_Reader)]]
abbrev io : List (Nat × Oi) := [(2, .val (.r 0 T_api_Grant))]
abbrev R : Type := DOut ia io
noncomputable def X (n : Nat) : Ctx := ⟨⟨tab, [F_pack_Reader_Text.en n, F_pack_Reader_Count.en n, F_pack_Reader_Flag.en n], 0, []⟩, 32, bnOf 0 ia⟩
abbrev g1 : List Si := [.ref 1 1 T_entry_Reader, .val 3 (.r 200300 T_api_Grant), .dat 7 (.int .i64), .dat 8 (.int .i64), .box 1 (.p (.al 500000 T_pack_Reader) (.d .unit)), .box 500000 (.d T_pack_Reader)]
abbrev g2 : List Si := [.val 3 (.r 200300 T_api_Grant), .box 500000 (.d T_pack_Reader)]
noncomputable def T : CT := (.s .o (.s .o (.s (.s .o (.b (.l g1 .o))) (.r g2 .o))))
noncomputable def J1 (n : Nat) (m : Nat) : (List (D_api_Grant)) × Int × Int × D_entry_Reader × D_pack_Reader × Unit → Option R := jL (X n) n T (bodyOf Tryz.f209) (endK ia io) g1 [1, 1, 0, 1, 0] [] m
noncomputable def J2 (n : Nat) : (List (D_api_Grant)) × D_pack_Reader × Unit → Option R := jR (X n) n T (bodyOf Tryz.f209) (endK ia io) g2 [1, 1, 1] []
noncomputable def f (n : Nat) (rc0 : D_pack_Reader) : Option R := fRun (X n) n T Tryz.f209 ia io (rc0, ())
theorem e0 (n : Nat) (rc0 : D_pack_Reader) : f n rc0 =
  bnd (F_pack_Reader_Count.f n rc0 8) fun u1 =>
  J1 n n ([], u1.1, 0, ((), ()), u1.2.1, ()) := (hideF_eq _).trans (by kernel_rfl)
theorem e1 (n m : Nat) (out : List (D_api_Grant)) (t7 : Int) (t8 : Int) (r : D_entry_Reader) (b500000 : D_pack_Reader) : J1 n (m + 1) (out, t7, t8, r, b500000, ()) =
  bIf ((hide (decide (t8 < t7)))) (
    bnd (F_pack_Reader_Flag.f n b500000) fun u1 =>
    bnd (F_pack_Reader_Text.f n u1.2.1) fun u2 =>
    bnd (F_pack_Reader_Text.f n u2.2.1) fun u3 =>
    bnd (F_pack_Reader_Text.f n u3.2.1) fun u4 =>
    gIf ((out.length + 1) * 56 ≤ 70368744177664) (
      J1 n m ((out ++ ([(u1.1, (u2.1, (u3.1, (u4.1, ()))))] : List (D_api_Grant))), t7, (IntKind.i64.wrap (t8 + (1 : Int))), ((), r.2), u4.2.1, ())
      )
    ) (
    J2 n (out, b500000, ())
    ) := (hideF_eq _).trans (by kernel_rfl)
theorem e2 (n : Nat) (out : List (D_api_Grant)) (b500000 : D_pack_Reader) : J2 n (out, b500000, ()) =
  some (out, b500000, ()) := (hideF_eq _).trans (by kernel_rfl)
theorem phi (n : Nat) : ∀ e ∈ (X n).c.Φ, EntryOk Tryz.prog e := allE_cons (mkEntry_ok (F_pack_Reader_Text.ok n)) (allE_cons (mkEntry_ok (F_pack_Reader_Count.ok n)) (allE_cons (mkEntry_ok (F_pack_Reader_Flag.ok n)) (allE_nil)))
theorem ok (n : Nat) : FnOk Tryz.prog 209 ia io (fRun (X n) n T Tryz.f209 ia io) := tree_ok mixed tabIs (phi n) Tryz.func209 (by kernel_rfl) rfl
noncomputable def en (n : Nat) : Entry := mkEntry 209 ia io (fRun (X n) n T Tryz.f209 ia io)
end F_entry_Reader_Grants
end Go.Proofs.YtdlkpmohjhjmfaaGreatDoor

namespace Go.Proofs.YtdlkpmohjhjmfaaGreatDoor
open Go Go.Va Go.Proofs
namespace F_entry_Reader_Lock
abbrev ia : List Ai := [.fn (.str 1) [(.d T_pack_Reader)]]
abbrev io : List (Nat × Oi) := [(2, .cel (.d T_api_Lock))]
abbrev R : Type := DOut ia io
noncomputable def X (n : Nat) : Ctx := ⟨⟨tab, [F_entry_Reader_Small.en n, F_pack_Reader_Flag.en n, F_pack_Reader_Int.en n], 0, []⟩, 16, bnOf 0 ia⟩
noncomputable def T : CT := .o
noncomputable def f (n : Nat) (rc0 : D_pack_Reader) : Option R := fRun (X n) n T Tryz.f212 ia io (rc0, ())
theorem e0 (n : Nat) (rc0 : D_pack_Reader) : f n rc0 =
  bnd (F_entry_Reader_Small.f n rc0) fun u1 =>
  bnd (F_pack_Reader_Int.f n u1.2.1) fun u2 =>
  bnd (F_pack_Reader_Flag.f n u2.2.1) fun u3 =>
  some ((u1.1, (u2.1, (u3.1, ()))), u3.2.1, ()) := (hideF_eq _).trans (by kernel_rfl)
theorem phi (n : Nat) : ∀ e ∈ (X n).c.Φ, EntryOk Tryz.prog e := allE_cons (mkEntry_ok (F_entry_Reader_Small.ok n)) (allE_cons (mkEntry_ok (F_pack_Reader_Flag.ok n)) (allE_cons (mkEntry_ok (F_pack_Reader_Int.ok n)) (allE_nil)))
theorem ok (n : Nat) : FnOk Tryz.prog 212 ia io (fRun (X n) n T Tryz.f212 ia io) := tree_ok mixed tabIs (phi n) Tryz.func212 (by kernel_rfl) rfl
noncomputable def en (n : Nat) : Entry := mkEntry 212 ia io (fRun (X n) n T Tryz.f212 ia io)
end F_entry_Reader_Lock
end Go.Proofs.YtdlkpmohjhjmfaaGreatDoor

namespace Go.Proofs.YtdlkpmohjhjmfaaGreatDoor
open Go Go.Va Go.Proofs
namespace F_entry_Reader_Tags
abbrev ia : List Ai := [.fn (.str 1) [(.d T_pack_Reader)]]
abbrev io : List (Nat × Oi) := [(2, .val (.r 0 T_api_Tag))]
abbrev R : Type := DOut ia io
noncomputable def X (n : Nat) : Ctx := ⟨⟨tab, [F_pack_Reader_Text.en n, F_pack_Reader_Count.en n], 0, []⟩, 23, bnOf 0 ia⟩
abbrev g1 : List Si := [.ref 1 1 T_entry_Reader, .val 3 (.r 200300 T_api_Tag), .dat 7 (.int .i64), .dat 8 (.int .i64), .box 1 (.p (.al 500000 T_pack_Reader) (.d .unit)), .box 500000 (.d T_pack_Reader)]
abbrev g2 : List Si := [.val 3 (.r 200300 T_api_Tag), .box 500000 (.d T_pack_Reader)]
noncomputable def T : CT := (.s .o (.s .o (.s (.s .o (.b (.l g1 .o))) (.r g2 .o))))
noncomputable def J1 (n : Nat) (m : Nat) : (List (D_api_Tag)) × Int × Int × D_entry_Reader × D_pack_Reader × Unit → Option R := jL (X n) n T (bodyOf Tryz.f211) (endK ia io) g1 [1, 1, 0, 1, 0] [] m
noncomputable def J2 (n : Nat) : (List (D_api_Tag)) × D_pack_Reader × Unit → Option R := jR (X n) n T (bodyOf Tryz.f211) (endK ia io) g2 [1, 1, 1] []
noncomputable def f (n : Nat) (rc0 : D_pack_Reader) : Option R := fRun (X n) n T Tryz.f211 ia io (rc0, ())
theorem e0 (n : Nat) (rc0 : D_pack_Reader) : f n rc0 =
  bnd (F_pack_Reader_Count.f n rc0 8) fun u1 =>
  J1 n n ([], u1.1, 0, ((), ()), u1.2.1, ()) := (hideF_eq _).trans (by kernel_rfl)
theorem e1 (n m : Nat) (out : List (D_api_Tag)) (t7 : Int) (t8 : Int) (r : D_entry_Reader) (b500000 : D_pack_Reader) : J1 n (m + 1) (out, t7, t8, r, b500000, ()) =
  bIf ((hide (decide (t8 < t7)))) (
    bnd (F_pack_Reader_Text.f n b500000) fun u1 =>
    bnd (F_pack_Reader_Text.f n u1.2.1) fun u2 =>
    gIf ((out.length + 1) * 32 ≤ 70368744177664) (
      J1 n m ((out ++ ([(u1.1, (u2.1, ()))] : List (D_api_Tag))), t7, (IntKind.i64.wrap (t8 + (1 : Int))), ((), r.2), u2.2.1, ())
      )
    ) (
    J2 n (out, b500000, ())
    ) := (hideF_eq _).trans (by kernel_rfl)
theorem e2 (n : Nat) (out : List (D_api_Tag)) (b500000 : D_pack_Reader) : J2 n (out, b500000, ()) =
  some (out, b500000, ()) := (hideF_eq _).trans (by kernel_rfl)
theorem phi (n : Nat) : ∀ e ∈ (X n).c.Φ, EntryOk Tryz.prog e := allE_cons (mkEntry_ok (F_pack_Reader_Text.ok n)) (allE_cons (mkEntry_ok (F_pack_Reader_Count.ok n)) (allE_nil))
theorem ok (n : Nat) : FnOk Tryz.prog 211 ia io (fRun (X n) n T Tryz.f211 ia io) := tree_ok mixed tabIs (phi n) Tryz.func211 (by kernel_rfl) rfl
noncomputable def en (n : Nat) : Entry := mkEntry 211 ia io (fRun (X n) n T Tryz.f211 ia io)
end F_entry_Reader_Tags
end Go.Proofs.YtdlkpmohjhjmfaaGreatDoor

namespace Go.Proofs.YtdlkpmohjhjmfaaGreatDoor
open Go Go.Va Go.Proofs
namespace F_entry_Reader_Rules
abbrev ia : List Ai := [.fn (.str 1) [(.d T_pack_Reader)]]
abbrev io : List (Nat × Oi) := [(2, .val (.r 0 T_api_Rule))]
abbrev R : Type := DOut ia io
noncomputable def X (n : Nat) : Ctx := ⟨⟨tab, [F_entry_Reader_Small.en n, F_pack_Reader_Text.en n, F_pack_Reader_Count.en n, F_entry_Reader_Tags.en n, F_pack_Reader_Flag.en n], 0, []⟩, 33, bnOf 0 ia⟩
abbrev g1 : List Si := [.ref 1 1 T_entry_Reader, .val 3 (.r 200300 T_api_Rule), .dat 7 (.int .i64), .dat 8 (.int .i64), .box 1 (.p (.al 500000 T_pack_Reader) (.d .unit)), .box 500000 (.d T_pack_Reader)]
abbrev g2 : List Si := [.val 3 (.r 200300 T_api_Rule), .box 500000 (.d T_pack_Reader)]
noncomputable def T : CT := (.s .o (.s .o (.s (.s .o (.b (.l g1 .o))) (.r g2 .o))))
noncomputable def J1 (n : Nat) (m : Nat) : (List (D_api_Rule)) × Int × Int × D_entry_Reader × D_pack_Reader × Unit → Option R := jL (X n) n T (bodyOf Tryz.f208) (endK ia io) g1 [1, 1, 0, 1, 0] [] m
noncomputable def J2 (n : Nat) : (List (D_api_Rule)) × D_pack_Reader × Unit → Option R := jR (X n) n T (bodyOf Tryz.f208) (endK ia io) g2 [1, 1, 1] []
noncomputable def f (n : Nat) (rc0 : D_pack_Reader) : Option R := fRun (X n) n T Tryz.f208 ia io (rc0, ())
theorem e0 (n : Nat) (rc0 : D_pack_Reader) : f n rc0 =
  bnd (F_pack_Reader_Count.f n rc0 8) fun u1 =>
  J1 n n ([], u1.1, 0, ((), ()), u1.2.1, ()) := (hideF_eq _).trans (by kernel_rfl)
theorem e1 (n m : Nat) (out : List (D_api_Rule)) (t7 : Int) (t8 : Int) (r : D_entry_Reader) (b500000 : D_pack_Reader) : J1 n (m + 1) (out, t7, t8, r, b500000, ()) =
  bIf ((hide (decide (t8 < t7)))) (
    bnd (F_pack_Reader_Text.f n b500000) fun u1 =>
    bnd (F_entry_Reader_Tags.f n u1.2.1) fun u2 =>
    bnd (F_entry_Reader_Small.f n u2.2.1) fun u3 =>
    bnd (F_entry_Reader_Small.f n u3.2.1) fun u4 =>
    bnd (F_pack_Reader_Flag.f n u4.2.1) fun u5 =>
    gIf ((out.length + 1) * 64 ≤ 70368744177664) (
      J1 n m ((out ++ ([(u1.1, (u2.1, (u3.1, (u4.1, (u5.1, ())))))] : List (D_api_Rule))), t7, (IntKind.i64.wrap (t8 + (1 : Int))), ((), r.2), u5.2.1, ())
      )
    ) (
    J2 n (out, b500000, ())
    ) := (hideF_eq _).trans (by kernel_rfl)
theorem e2 (n : Nat) (out : List (D_api_Rule)) (b500000 : D_pack_Reader) : J2 n (out, b500000, ()) =
  some (out, b500000, ()) := (hideF_eq _).trans (by kernel_rfl)
theorem phi (n : Nat) : ∀ e ∈ (X n).c.Φ, EntryOk Tryz.prog e := allE_cons (mkEntry_ok (F_entry_Reader_Small.ok n)) (allE_cons (mkEntry_ok (F_pack_Reader_Text.ok n)) (allE_cons (mkEntry_ok (F_pack_Reader_Count.ok n)) (allE_cons (mkEntry_ok (F_entry_Reader_Tags.ok n)) (allE_cons (mkEntry_ok (F_pack_Reader_Flag.ok n)) (allE_nil)))))
theorem ok (n : Nat) : FnOk Tryz.prog 208 ia io (fRun (X n) n T Tryz.f208 ia io) := tree_ok mixed tabIs (phi n) Tryz.func208 (by kernel_rfl) rfl
noncomputable def en (n : Nat) : Entry := mkEntry 208 ia io (fRun (X n) n T Tryz.f208 ia io)
end F_entry_Reader_Rules
end Go.Proofs.YtdlkpmohjhjmfaaGreatDoor

namespace Go.Proofs.YtdlkpmohjhjmfaaGreatDoor
open Go Go.Va Go.Proofs
namespace F_pack_Reader_Error
abbrev ia : List Ai := [.ptr (.d T_pack_Reader)]
abbrev io : List (Nat × Oi) := [(2, .dat (.int .i64))]
abbrev R : Type := DOut ia io
noncomputable def X (n : Nat) : Ctx := ⟨⟨tab, [], 0, []⟩, 9, bnOf 0 ia⟩
noncomputable def T : CT := .o
noncomputable def f (n : Nat) (r : D_pack_Reader) : Option R := fRun (X n) n T Tryz.f218 ia io (r, ())
theorem e0 (n : Nat) (r : D_pack_Reader) : f n r =
  bIf ((hide false)) (
    some (1, r, ())
    ) (
    some (r.2.1, r, ())
    ) := (hideF_eq _).trans (by kernel_rfl)
theorem phi (n : Nat) : ∀ e ∈ (X n).c.Φ, EntryOk Tryz.prog e := allE_nil
theorem ok (n : Nat) : FnOk Tryz.prog 218 ia io (fRun (X n) n T Tryz.f218 ia io) := tree_ok mixed tabIs (phi n) Tryz.func218 (by kernel_rfl) rfl
noncomputable def en (n : Nat) : Entry := mkEntry 218 ia io (fRun (X n) n T Tryz.f218 ia io)
end F_pack_Reader_Error
end Go.Proofs.YtdlkpmohjhjmfaaGreatDoor

namespace Go.Proofs.YtdlkpmohjhjmfaaGreatDoor
open Go Go.Va Go.Proofs
namespace F_pack_Reader_End
abbrev ia : List Ai := [.ptr (.d T_pack_Reader)]
abbrev io : List (Nat × Oi) := [(2, .dat (.int .i64))]
abbrev R : Type := DOut ia io
noncomputable def X (n : Nat) : Ctx := ⟨⟨tab, [F_pack_Reader_fail.en n, F_pack_Reader_Error.en n], 0, []⟩, 24, bnOf 0 ia⟩
abbrev g1 : List Si := [.ref 0 500000 T_pack_Reader, .box 500000 (.d T_pack_Reader)]
noncomputable def T : CT := (.s .o (.s .o (.r g1 .o)))
noncomputable def J1 (n : Nat) : D_pack_Reader × Unit → Option R := jR (X n) n T (bodyOf Tryz.f157) (endK ia io) g1 [1, 1] []
noncomputable def f (n : Nat) (r : D_pack_Reader) : Option R := fRun (X n) n T Tryz.f157 ia io (r, ())
theorem e0 (n : Nat) (r : D_pack_Reader) : f n r =
  bIf ((hide true)) (
    bIf ((hide (r.2.1 == (0 : Int)))) (
      bIf ((hide (decide (((r.1.length : Nat) : Int) > (0 : Int))))) (
        bnd (F_pack_Reader_fail.f n r 2) fun u1 =>
        J1 n (u1.1, ())
        ) (
        J1 n (r, ())
        )
      ) (
      J1 n (r, ())
      )
    ) (
    J1 n (r, ())
    ) := (hideF_eq _).trans (by kernel_rfl)
theorem e1 (n : Nat) (r : D_pack_Reader) : J1 n (r, ()) =
  bnd (F_pack_Reader_Error.f n r) fun u1 =>
  some (u1.1, u1.2.1, ()) := (hideF_eq _).trans (by kernel_rfl)
theorem phi (n : Nat) : ∀ e ∈ (X n).c.Φ, EntryOk Tryz.prog e := allE_cons (mkEntry_ok (F_pack_Reader_fail.ok n)) (allE_cons (mkEntry_ok (F_pack_Reader_Error.ok n)) (allE_nil))
theorem ok (n : Nat) : FnOk Tryz.prog 157 ia io (fRun (X n) n T Tryz.f157 ia io) := tree_ok mixed tabIs (phi n) Tryz.func157 (by kernel_rfl) rfl
noncomputable def en (n : Nat) : Entry := mkEntry 157 ia io (fRun (X n) n T Tryz.f157 ia io)
end F_pack_Reader_End
end Go.Proofs.YtdlkpmohjhjmfaaGreatDoor

namespace Go.Proofs.YtdlkpmohjhjmfaaGreatDoor
open Go Go.Va Go.Proofs
namespace F_acts_anywhere
abbrev ia : List Ai := [.dat (.int .i64)]
abbrev io : List (Nat × Oi) := [(2, .dat .bool)]
abbrev R : Type := DOut ia io
noncomputable def X (n : Nat) : Ctx := ⟨⟨tab, [], 0, []⟩, 9, bnOf 0 ia⟩
noncomputable def T : CT := .o
noncomputable def f (n : Nat) (kind : Int) : Option R := fRun (X n) n T Tryz.f130 ia io (kind, ())
theorem e0 (n : Nat) (kind : Int) : f n kind =
  bIf ((hide (kind == (21 : Int)))) (
    some (true, ())
    ) (
    some ((hide (kind == (22 : Int))), ())
    ) := (hideF_eq _).trans (by kernel_rfl)
theorem phi (n : Nat) : ∀ e ∈ (X n).c.Φ, EntryOk Tryz.prog e := allE_nil
theorem ok (n : Nat) : FnOk Tryz.prog 130 ia io (fRun (X n) n T Tryz.f130 ia io) := tree_ok mixed tabIs (phi n) Tryz.func130 (by kernel_rfl) rfl
noncomputable def en (n : Nat) : Entry := mkEntry 130 ia io (fRun (X n) n T Tryz.f130 ia io)
end F_acts_anywhere
end Go.Proofs.YtdlkpmohjhjmfaaGreatDoor

namespace Go.Proofs.YtdlkpmohjhjmfaaGreatDoor
open Go Go.Va Go.Proofs
namespace F_acts_bare
abbrev ia : List Ai := [.dat T_api_Request]
abbrev io : List (Nat × Oi) := [(2, .dat .bool)]
abbrev R : Type := DOut ia io
noncomputable def X (n : Nat) : Ctx := ⟨⟨tab, [], 0, []⟩, 89, bnOf 0 ia⟩
noncomputable def T : CT := .o
noncomputable def f (n : Nat) (r : D_api_Request) : Option R := fRun (X n) n T Tryz.f133 ia io (r, ())
theorem e0 (n : Nat) (r : D_api_Request) : f n r =
  bIf ((hide (eqS r.2.2.2.1 (⟨#[]⟩ : ByteArray)))) (
    bIf ((hide (r.2.2.2.2.1 == (0 : Int)))) (
      bIf ((hide (((r.2.2.2.2.2.1.length : Nat) : Int) == (0 : Int)))) (
        bIf ((hide (((r.2.2.2.2.2.2.1.length : Nat) : Int) == (0 : Int)))) (
          bIf ((hide (eqD T_api_Lock r.2.2.2.2.2.2.2.1 (0, (0, (false, ())))))) (
            bIf ((!r.2.2.2.2.2.2.2.2.1)) (
              bIf ((hide (eqD T_api_Default r.2.2.2.2.2.2.2.2.2.1 (0, (0, ()))))) (
                bIf ((hide (((r.2.2.2.2.2.2.2.2.2.2.1.length : Nat) : Int) == (0 : Int)))) (
                  bIf ((hide (((r.2.2.2.2.2.2.2.2.2.2.2.1.length : Nat) : Int) == (0 : Int)))) (
                    bIf ((hide (r.2.2.2.2.2.2.2.2.2.2.2.2.1 == (0 : Int)))) (
                      bIf ((hide (((r.2.2.2.2.2.2.2.2.2.2.2.2.2.1.length : Nat) : Int) == (0 : Int)))) (
                        bIf ((hide (eqS r.2.2.2.2.2.2.2.2.2.2.2.2.2.2.1 (⟨#[]⟩ : ByteArray)))) (
                          bIf ((hide (eqS r.2.2.2.2.2.2.2.2.2.2.2.2.2.2.2.1 (⟨#[]⟩ : ByteArray)))) (
                            bIf ((hide (eqS r.2.2.2.2.2.2.2.2.2.2.2.2.2.2.2.2.1 (⟨#[]⟩ : ByteArray)))) (
                              bIf ((hide (eqD T_api_Spot r.2.2.2.2.2.2.2.2.2.2.2.2.2.2.2.2.2.1 ((⟨#[]⟩ : ByteArray), ((⟨#[]⟩ : ByteArray), (0, ())))))) (
                                some ((hide (r.2.2.2.2.2.2.2.2.2.2.2.2.2.2.2.2.2.2.1 == (0 : Int))), ())
                                ) (
                                some (false, ())
                                )
                              ) (
                              some (false, ())
                              )
                            ) (
                            some (false, ())
                            )
                          ) (
                          some (false, ())
                          )
                        ) (
                        some (false, ())
                        )
                      ) (
                      some (false, ())
                      )
                    ) (
                    some (false, ())
                    )
                  ) (
                  some (false, ())
                  )
                ) (
                some (false, ())
                )
              ) (
              some (false, ())
              )
            ) (
            some (false, ())
            )
          ) (
          some (false, ())
          )
        ) (
        some (false, ())
        )
      ) (
      some (false, ())
      )
    ) (
    some (false, ())
    ) := (hideF_eq _).trans (by kernel_rfl)
theorem phi (n : Nat) : ∀ e ∈ (X n).c.Φ, EntryOk Tryz.prog e := allE_nil
theorem ok (n : Nat) : FnOk Tryz.prog 133 ia io (fRun (X n) n T Tryz.f133 ia io) := tree_ok mixed tabIs (phi n) Tryz.func133 (by kernel_rfl) rfl
noncomputable def en (n : Nat) : Entry := mkEntry 133 ia io (fRun (X n) n T Tryz.f133 ia io)
end F_acts_bare
end Go.Proofs.YtdlkpmohjhjmfaaGreatDoor

namespace Go.Proofs.YtdlkpmohjhjmfaaGreatDoor
open Go Go.Va Go.Proofs
namespace F_acts_name
abbrev ia : List Ai := [.dat .str]
abbrev io : List (Nat × Oi) := [(2, .dat .bool)]
abbrev R : Type := DOut ia io
noncomputable def X (n : Nat) : Ctx := ⟨⟨tab, [F_label_Clean.en n], 0, []⟩, 10, bnOf 0 ia⟩
noncomputable def T : CT := .o
noncomputable def f (n : Nat) (s_ : ByteArray) : Option R := fRun (X n) n T Tryz.f191 ia io (s_, ())
theorem e0 (n : Nat) (s_ : ByteArray) : f n s_ =
  bIf ((hide (decide ((s_.size : Int) ≤ (200 : Int))))) (
    bnd (F_label_Clean.f n s_) fun u1 =>
    some (u1.1, ())
    ) (
    some (false, ())
    ) := (hideF_eq _).trans (by kernel_rfl)
theorem phi (n : Nat) : ∀ e ∈ (X n).c.Φ, EntryOk Tryz.prog e := allE_cons (mkEntry_ok (F_label_Clean.ok n)) (allE_nil)
theorem ok (n : Nat) : FnOk Tryz.prog 191 ia io (fRun (X n) n T Tryz.f191 ia io) := tree_ok mixed tabIs (phi n) Tryz.func191 (by kernel_rfl) rfl
noncomputable def en (n : Nat) : Entry := mkEntry 191 ia io (fRun (X n) n T Tryz.f191 ia io)
end F_acts_name
end Go.Proofs.YtdlkpmohjhjmfaaGreatDoor

namespace Go.Proofs.YtdlkpmohjhjmfaaGreatDoor
open Go Go.Va Go.Proofs
namespace F_acts_strip_may
abbrev ia : List Ai := [.ptr (.d T_acts_strip), .dat .bool]
abbrev io : List (Nat × Oi) := [(4, .arg 0 500000 (.d T_acts_strip))]
abbrev R : Type := DOut ia io
noncomputable def X (n : Nat) : Ctx := ⟨⟨tab, [], 0, []⟩, 16, bnOf 0 ia⟩
noncomputable def T : CT := .o
noncomputable def f (n : Nat) (s_ : D_acts_strip) (ok_ : Bool) : Option R := fRun (X n) n T Tryz.f180 ia io (s_, ok_, ())
theorem e0 (n : Nat) (s_ : D_acts_strip) (ok_ : Bool) : f n s_ ok_ =
  bIf (s_.2.1) (
    some ((s_.1, (ok_, s_.2.2)), ())
    ) (
    some ((s_.1, (false, s_.2.2)), ())
    ) := (hideF_eq _).trans (by kernel_rfl)
theorem phi (n : Nat) : ∀ e ∈ (X n).c.Φ, EntryOk Tryz.prog e := allE_nil
theorem ok (n : Nat) : FnOk Tryz.prog 180 ia io (fRun (X n) n T Tryz.f180 ia io) := tree_ok mixed tabIs (phi n) Tryz.func180 (by kernel_rfl) rfl
noncomputable def en (n : Nat) : Entry := mkEntry 180 ia io (fRun (X n) n T Tryz.f180 ia io)
end F_acts_strip_may
end Go.Proofs.YtdlkpmohjhjmfaaGreatDoor

namespace Go.Proofs.YtdlkpmohjhjmfaaGreatDoor
open Go Go.Va Go.Proofs
namespace F_acts_strip_body
abbrev ia : List Ai := [.ptr (.d T_acts_strip)]
abbrev io : List (Nat × Oi) := [(2, .arg 0 500000 (.d T_acts_strip))]
abbrev R : Type := DOut ia io
noncomputable def X (n : Nat) : Ctx := ⟨⟨tab, [F_acts_strip_may.en n], 0, []⟩, 16, bnOf 0 ia⟩
noncomputable def T : CT := .o
noncomputable def f (n : Nat) (s_ : D_acts_strip) : Option R := fRun (X n) n T Tryz.f185 ia io (s_, ())
theorem e0 (n : Nat) (s_ : D_acts_strip) : f n s_ =
  bnd (F_acts_strip_may.f n s_ (hide (decide (((s_.1.2.2.2.2.2.1.length : Nat) : Int) ≤ (1024 : Int))))) fun u1 =>
  some (((u1.1.1.1, (u1.1.1.2.1, (u1.1.1.2.2.1, (u1.1.1.2.2.2.1, (u1.1.1.2.2.2.2.1, ([], u1.1.1.2.2.2.2.2.2)))))), u1.1.2), ()) := (hideF_eq _).trans (by kernel_rfl)
theorem phi (n : Nat) : ∀ e ∈ (X n).c.Φ, EntryOk Tryz.prog e := allE_cons (mkEntry_ok (F_acts_strip_may.ok n)) (allE_nil)
theorem ok (n : Nat) : FnOk Tryz.prog 185 ia io (fRun (X n) n T Tryz.f185 ia io) := tree_ok mixed tabIs (phi n) Tryz.func185 (by kernel_rfl) rfl
noncomputable def en (n : Nat) : Entry := mkEntry 185 ia io (fRun (X n) n T Tryz.f185 ia io)
end F_acts_strip_body
end Go.Proofs.YtdlkpmohjhjmfaaGreatDoor

namespace Go.Proofs.YtdlkpmohjhjmfaaGreatDoor
open Go Go.Va Go.Proofs
namespace F_acts_strip_bypass
abbrev ia : List Ai := [.ptr (.d T_acts_strip)]
abbrev io : List (Nat × Oi) := [(2, .arg 0 500000 (.d T_acts_strip))]
abbrev R : Type := DOut ia io
noncomputable def X (n : Nat) : Ctx := ⟨⟨tab, [], 0, []⟩, 8, bnOf 0 ia⟩
noncomputable def T : CT := .o
noncomputable def f (n : Nat) (s_ : D_acts_strip) : Option R := fRun (X n) n T Tryz.f189 ia io (s_, ())
theorem e0 (n : Nat) (s_ : D_acts_strip) : f n s_ =
  some (((s_.1.1, (s_.1.2.1, (s_.1.2.2.1, (s_.1.2.2.2.1, (s_.1.2.2.2.2.1, (s_.1.2.2.2.2.2.1, (s_.1.2.2.2.2.2.2.1, (s_.1.2.2.2.2.2.2.2.1, (false, s_.1.2.2.2.2.2.2.2.2.2))))))))), s_.2), ()) := (hideF_eq _).trans (by kernel_rfl)
theorem phi (n : Nat) : ∀ e ∈ (X n).c.Φ, EntryOk Tryz.prog e := allE_nil
theorem ok (n : Nat) : FnOk Tryz.prog 189 ia io (fRun (X n) n T Tryz.f189 ia io) := tree_ok mixed tabIs (phi n) Tryz.func189 (by kernel_rfl) rfl
noncomputable def en (n : Nat) : Entry := mkEntry 189 ia io (fRun (X n) n T Tryz.f189 ia io)
end F_acts_strip_bypass
end Go.Proofs.YtdlkpmohjhjmfaaGreatDoor

namespace Go.Proofs.YtdlkpmohjhjmfaaGreatDoor
open Go Go.Va Go.Proofs
namespace F_acts_strip_from
abbrev ia : List Ai := [.ptr (.d T_acts_strip), .dat .bool]
abbrev io : List (Nat × Oi) := [(4, .arg 0 500000 (.d T_acts_strip))]
abbrev R : Type := DOut ia io
noncomputable def X (n : Nat) : Ctx := ⟨⟨tab, [F_acts_strip_may.en n], 0, []⟩, 13, bnOf 0 ia⟩
noncomputable def T : CT := .o
noncomputable def f (n : Nat) (s_ : D_acts_strip) (ok_ : Bool) : Option R := fRun (X n) n T Tryz.f192 ia io (s_, ok_, ())
theorem e0 (n : Nat) (s_ : D_acts_strip) (ok_ : Bool) : f n s_ ok_ =
  bnd (F_acts_strip_may.f n s_ ok_) fun u1 =>
  some (((u1.1.1.1, (u1.1.1.2.1, (u1.1.1.2.2.1, (u1.1.1.2.2.2.1, (u1.1.1.2.2.2.2.1, (u1.1.1.2.2.2.2.2.1, (u1.1.1.2.2.2.2.2.2.1, (u1.1.1.2.2.2.2.2.2.2.1, (u1.1.1.2.2.2.2.2.2.2.2.1, (u1.1.1.2.2.2.2.2.2.2.2.2.1, (u1.1.1.2.2.2.2.2.2.2.2.2.2.1, (u1.1.1.2.2.2.2.2.2.2.2.2.2.2.1, (u1.1.1.2.2.2.2.2.2.2.2.2.2.2.2.1, (u1.1.1.2.2.2.2.2.2.2.2.2.2.2.2.2.1, (u1.1.1.2.2.2.2.2.2.2.2.2.2.2.2.2.2.1, (u1.1.1.2.2.2.2.2.2.2.2.2.2.2.2.2.2.2.1, (u1.1.1.2.2.2.2.2.2.2.2.2.2.2.2.2.2.2.2.1, (((⟨#[]⟩ : ByteArray), ((⟨#[]⟩ : ByteArray), (0, ()))), u1.1.1.2.2.2.2.2.2.2.2.2.2.2.2.2.2.2.2.2.2)))))))))))))))))), u1.1.2), ()) := (hideF_eq _).trans (by kernel_rfl)
theorem phi (n : Nat) : ∀ e ∈ (X n).c.Φ, EntryOk Tryz.prog e := allE_cons (mkEntry_ok (F_acts_strip_may.ok n)) (allE_nil)
theorem ok (n : Nat) : FnOk Tryz.prog 192 ia io (fRun (X n) n T Tryz.f192 ia io) := tree_ok mixed tabIs (phi n) Tryz.func192 (by kernel_rfl) rfl
noncomputable def en (n : Nat) : Entry := mkEntry 192 ia io (fRun (X n) n T Tryz.f192 ia io)
end F_acts_strip_from
end Go.Proofs.YtdlkpmohjhjmfaaGreatDoor

namespace Go.Proofs.YtdlkpmohjhjmfaaGreatDoor
open Go Go.Va Go.Proofs
namespace F_acts_strip_id
abbrev ia : List Ai := [.ptr (.d T_acts_strip), .dat (.int .u64)]
abbrev io : List (Nat × Oi) := [(4, .arg 0 500000 (.d T_acts_strip))]
abbrev R : Type := DOut ia io
noncomputable def X (n : Nat) : Ctx := ⟨⟨tab, [F_acts_strip_may.en n], 0, []⟩, 18, bnOf 0 ia⟩
noncomputable def T : CT := .o
noncomputable def f (n : Nat) (s_ : D_acts_strip) (least : Int) : Option R := fRun (X n) n T Tryz.f188 ia io (s_, least, ())
theorem e0 (n : Nat) (s_ : D_acts_strip) (least : Int) : f n s_ least =
  bnd (F_acts_strip_may.f n s_ (hide (decide (s_.1.2.2.2.2.1 ≥ least)))) fun u1 =>
  some (((u1.1.1.1, (u1.1.1.2.1, (u1.1.1.2.2.1, (u1.1.1.2.2.2.1, (0, u1.1.1.2.2.2.2.2))))), u1.1.2), ()) := (hideF_eq _).trans (by kernel_rfl)
theorem phi (n : Nat) : ∀ e ∈ (X n).c.Φ, EntryOk Tryz.prog e := allE_cons (mkEntry_ok (F_acts_strip_may.ok n)) (allE_nil)
theorem ok (n : Nat) : FnOk Tryz.prog 188 ia io (fRun (X n) n T Tryz.f188 ia io) := tree_ok mixed tabIs (phi n) Tryz.func188 (by kernel_rfl) rfl
noncomputable def en (n : Nat) : Entry := mkEntry 188 ia io (fRun (X n) n T Tryz.f188 ia io)
end F_acts_strip_id
end Go.Proofs.YtdlkpmohjhjmfaaGreatDoor

namespace Go.Proofs.YtdlkpmohjhjmfaaGreatDoor
open Go Go.Va Go.Proofs
namespace F_acts_strip_key
abbrev ia : List Ai := [.ptr (.d T_acts_strip)]
abbrev io : List (Nat × Oi) := [(2, .arg 0 500000 (.d T_acts_strip))]
abbrev R : Type := DOut ia io
noncomputable def X (n : Nat) : Ctx := ⟨⟨tab, [F_acts_strip_may.en n, F_label_Key.en n], 0, []⟩, 15, bnOf 0 ia⟩
noncomputable def T : CT := .o
noncomputable def f (n : Nat) (s_ : D_acts_strip) : Option R := fRun (X n) n T Tryz.f184 ia io (s_, ())
theorem e0 (n : Nat) (s_ : D_acts_strip) : f n s_ =
  bnd (F_label_Key.f n s_.1.2.2.2.1) fun u1 =>
  bnd (F_acts_strip_may.f n s_ u1.1) fun u2 =>
  some (((u2.1.1.1, (u2.1.1.2.1, (u2.1.1.2.2.1, ((⟨#[]⟩ : ByteArray), u2.1.1.2.2.2.2)))), u2.1.2), ()) := (hideF_eq _).trans (by kernel_rfl)
theorem phi (n : Nat) : ∀ e ∈ (X n).c.Φ, EntryOk Tryz.prog e := allE_cons (mkEntry_ok (F_acts_strip_may.ok n)) (allE_cons (mkEntry_ok (F_label_Key.ok n)) (allE_nil))
theorem ok (n : Nat) : FnOk Tryz.prog 184 ia io (fRun (X n) n T Tryz.f184 ia io) := tree_ok mixed tabIs (phi n) Tryz.func184 (by kernel_rfl) rfl
noncomputable def en (n : Nat) : Entry := mkEntry 184 ia io (fRun (X n) n T Tryz.f184 ia io)
end F_acts_strip_key
end Go.Proofs.YtdlkpmohjhjmfaaGreatDoor

namespace Go.Proofs.YtdlkpmohjhjmfaaGreatDoor
open Go Go.Va Go.Proofs
namespace F_acts_strip_lock
abbrev ia : List Ai := [.ptr (.d T_acts_strip), .dat .bool]
abbrev io : List (Nat × Oi) := [(4, .arg 0 500000 (.d T_acts_strip))]
abbrev R : Type := DOut ia io
noncomputable def X (n : Nat) : Ctx := ⟨⟨tab, [F_mode_Sound.en n, F_acts_strip_may.en n], 0, []⟩, 21, bnOf 0 ia⟩
noncomputable def T : CT := .o
noncomputable def f (n : Nat) (s_ : D_acts_strip) (ok_ : Bool) : Option R := fRun (X n) n T Tryz.f187 ia io (s_, ok_, ())
theorem e0 (n : Nat) (s_ : D_acts_strip) (ok_ : Bool) : f n s_ ok_ =
  bnd (F_mode_Sound.f n s_.1.2.2.2.2.2.2.2.1) fun u1 =>
  bIf (u1.1) (
    bnd (F_acts_strip_may.f n s_ ok_) fun u2 =>
    some (((u2.1.1.1, (u2.1.1.2.1, (u2.1.1.2.2.1, (u2.1.1.2.2.2.1, (u2.1.1.2.2.2.2.1, (u2.1.1.2.2.2.2.2.1, (u2.1.1.2.2.2.2.2.2.1, ((0, (0, (false, ()))), u2.1.1.2.2.2.2.2.2.2.2)))))))), u2.1.2), ())
    ) (
    bnd (F_acts_strip_may.f n s_ false) fun u3 =>
    some (((u3.1.1.1, (u3.1.1.2.1, (u3.1.1.2.2.1, (u3.1.1.2.2.2.1, (u3.1.1.2.2.2.2.1, (u3.1.1.2.2.2.2.2.1, (u3.1.1.2.2.2.2.2.2.1, ((0, (0, (false, ()))), u3.1.1.2.2.2.2.2.2.2.2)))))))), u3.1.2), ())
    ) := (hideF_eq _).trans (by kernel_rfl)
theorem phi (n : Nat) : ∀ e ∈ (X n).c.Φ, EntryOk Tryz.prog e := allE_cons (mkEntry_ok (F_mode_Sound.ok n)) (allE_cons (mkEntry_ok (F_acts_strip_may.ok n)) (allE_nil))
theorem ok (n : Nat) : FnOk Tryz.prog 187 ia io (fRun (X n) n T Tryz.f187 ia io) := tree_ok mixed tabIs (phi n) Tryz.func187 (by kernel_rfl) rfl
noncomputable def en (n : Nat) : Entry := mkEntry 187 ia io (fRun (X n) n T Tryz.f187 ia io)
end F_acts_strip_lock
end Go.Proofs.YtdlkpmohjhjmfaaGreatDoor

