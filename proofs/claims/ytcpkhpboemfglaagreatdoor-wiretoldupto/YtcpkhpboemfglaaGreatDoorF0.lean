/-
  What the functions compute, by the abstract interpreter.
-/
import Derived.Test.YtcpkhpboemfglaaGreatDoorVaTree
import Derived.Test.YtcpkhpboemfglaaGreatDoorChecked
import Derived.Lib.LaidU8T
import Derived.Test.YtcpkhpboemfglaaGreatDoorVaLeaf
import Derived.Shelf.Unicode.ValidAny
import Derived.Shelf.Small.Strs
import Derived.Shelf.Strings.Split
import Derived.Shelf.Strings.SlTrimAscii
set_option linter.unusedVariables false
set_option linter.unusedSimpArgs false
namespace Go.Proofs.YtcpkhpboemfglaaGreatDoor
open Go Go.Va Go.Proofs
abbrev T_entry_Reader : Ty := (.pair (.opq 0) .unit)
abbrev D_entry_Reader : Type := Unit × Unit
abbrev T_pack_Writer : Ty := (.pair (.slice (.int .u8)) .unit)
abbrev D_pack_Writer : Type := (List (Int)) × Unit
abbrev T_api_Tag : Ty := (.pair .str (.pair .str .unit))
abbrev D_api_Tag : Type := ByteArray × ByteArray × Unit
abbrev T_wire_reader : Ty := (.pair T_entry_Reader .unit)
abbrev D_wire_reader : Type := D_entry_Reader × Unit
abbrev T_runtime_errorAddressString : Ty := (.pair .str (.pair (.int .u64) .unit))
abbrev T_glob_piece : Ty := (.pair (.int .i64) (.pair (.int .u8) .unit))
abbrev D_glob_piece : Type := Int × Int × Unit
abbrev T_api_Default : Ty := (.pair (.int .i64) (.pair (.int .i64) .unit))
abbrev D_api_Default : Type := Int × Int × Unit
abbrev T_pack_Reader : Ty := (.pair (.slice (.int .u8)) (.pair (.int .i64) .unit))
abbrev D_pack_Reader : Type := (List (Int)) × Int × Unit
abbrev T_api_Spot : Ty := (.pair .str T_runtime_errorAddressString)
abbrev D_api_Spot : Type := ByteArray × ByteArray × Int × Unit
abbrev T_api_Lock : Ty := (.pair (.int .i64) (.pair (.int .i64) (.pair .bool .unit)))
abbrev D_api_Lock : Type := Int × Int × Bool × Unit
abbrev T_api_Grant : Ty := (.pair .bool (.pair .str T_api_Tag))
abbrev D_api_Grant : Type := Bool × ByteArray × ByteArray × ByteArray × Unit
abbrev T_api_Part : Ty := (.pair (.int .i64) (.pair (.int .i64) (.pair (.int .u64) (.pair (.arr 32 (.int .u8)) .unit))))
abbrev D_api_Part : Type := Int × Int × Int × (List (Int)) × Unit
abbrev T_api_Rule : Ty := (.pair .str (.pair (.slice T_api_Tag) T_api_Lock))
abbrev D_api_Rule : Type := ByteArray × (List (D_api_Tag)) × Int × Int × Bool × Unit
abbrev T_api_Version : Ty := (.pair (.int .u64) (.pair .bool (.pair (.int .i64) (.pair (.int .u64) (.pair (.arr 32 (.int .u8)) (.pair (.int .i64) (.pair T_api_Lock (.pair (.slice T_api_Tag) .unit))))))))
abbrev D_api_Version : Type := Int × Bool × Int × Int × (List (Int)) × Int × D_api_Lock × (List (D_api_Tag)) × Unit
abbrev T_api_Row : Ty := (.pair .str (.pair .bool (.pair T_api_Version (.pair .bool .unit))))
abbrev D_api_Row : Type := ByteArray × Bool × D_api_Version × Bool × Unit
abbrev T_api_Request : Ty := (.pair (.int .i64) (.pair .str (.pair .str (.pair .str (.pair (.int .u64) (.pair (.slice (.int .u8)) (.pair (.slice T_api_Tag) (.pair T_api_Lock (.pair .bool (.pair T_api_Default (.pair (.slice T_api_Rule) (.pair (.slice T_api_Grant) (.pair (.int .i64) (.pair (.slice (.int .i64)) (.pair .str (.pair .str (.pair .str (.pair T_api_Spot (.pair (.int .i64) .unit)))))))))))))))))))
abbrev D_api_Request : Type := Int × ByteArray × ByteArray × ByteArray × Int × (List (Int)) × (List (D_api_Tag)) × D_api_Lock × Bool × D_api_Default × (List (D_api_Rule)) × (List (D_api_Grant)) × Int × (List (Int)) × ByteArray × ByteArray × ByteArray × D_api_Spot × Int × Unit
abbrev T_api_Reply : Ty := (.pair (.int .i64) (.pair (.int .u64) (.pair (.slice (.int .u8)) (.pair T_api_Version (.pair (.slice T_api_Row) (.pair .bool (.pair (.slice (.int .i64)) (.pair (.slice .str) .unit))))))))
abbrev D_api_Reply : Type := Int × Int × (List (Int)) × D_api_Version × (List (D_api_Row)) × Bool × (List (Int)) × (List (ByteArray)) × Unit
abbrev T_acts_strip : Ty := (.pair T_api_Request (.pair .bool .unit))
abbrev D_acts_strip : Type := D_api_Request × Bool × Unit
abbrev T_api_Entry : Ty := (.pair (.int .i64) (.pair (.int .i64) (.pair .str (.pair .str (.pair (.int .u64) (.pair T_api_Version (.pair T_api_Lock (.pair (.slice T_api_Tag) (.pair T_api_Default (.pair (.slice T_api_Rule) (.pair (.slice T_api_Grant) (.pair T_api_Part .unit))))))))))))
abbrev D_api_Entry : Type := Int × Int × ByteArray × ByteArray × Int × D_api_Version × D_api_Lock × (List (D_api_Tag)) × D_api_Default × (List (D_api_Rule)) × (List (D_api_Grant)) × D_api_Part × Unit
noncomputable def tab : List (Nat × TE) := [(1, ⟨(.opq 1), 0⟩), (2, ⟨(.int .i64), 0⟩), (3, ⟨(.int .i64), 0⟩), (4, ⟨.bool, 0⟩), (5, ⟨(.int .u8), 0⟩), (9, ⟨.str, 0⟩), (22, ⟨(.slice T_api_Entry), 344⟩), (23, ⟨(.slice (.int .u8)), 1⟩), (24, ⟨(.int .i64), 0⟩), (30, ⟨(.opq 1), 0⟩), (31, ⟨(.int .u64), 0⟩), (32, ⟨(.arr 32 (.int .u8)), 0⟩), (33, ⟨(.arr 32 (.int .u8)), 0⟩), (34, ⟨T_api_Lock, 0⟩), (35, ⟨T_api_Lock, 0⟩), (36, ⟨(.slice T_api_Tag), 32⟩), (37, ⟨T_api_Version, 0⟩), (38, ⟨T_api_Version, 0⟩), (39, ⟨T_api_Default, 0⟩), (40, ⟨T_api_Default, 0⟩), (41, ⟨(.slice T_api_Rule), 64⟩), (42, ⟨(.slice T_api_Grant), 56⟩), (43, ⟨T_api_Part, 0⟩), (44, ⟨T_api_Part, 0⟩), (45, ⟨T_api_Entry, 0⟩), (46, ⟨T_api_Entry, 0⟩), (53, ⟨(.int .u16), 0⟩), (55, ⟨(.slice (.int .i64)), 8⟩), (56, ⟨T_api_Spot, 0⟩), (57, ⟨T_api_Spot, 0⟩), (58, ⟨T_api_Request, 0⟩), (59, ⟨T_api_Request, 0⟩), (66, ⟨(.slice T_api_Row), 152⟩), (67, ⟨(.slice .str), 16⟩), (68, ⟨T_api_Reply, 0⟩), (69, ⟨T_api_Reply, 0⟩), (79, ⟨(.opq 0), 0⟩), (80, ⟨T_entry_Reader, 0⟩), (81, ⟨T_entry_Reader, 0⟩), (89, ⟨(.opq 1), 0⟩), (104, ⟨T_api_Grant, 0⟩), (105, ⟨T_api_Grant, 0⟩), (106, ⟨(.opq 0), 0⟩), (107, ⟨T_entry_Reader, 0⟩), (108, ⟨T_entry_Reader, 0⟩), (117, ⟨T_wire_reader, 0⟩), (118, ⟨T_wire_reader, 0⟩), (122, ⟨(.opq 0), 0⟩), (125, ⟨T_wire_reader, 0⟩), (126, ⟨T_wire_reader, 0⟩), (134, ⟨T_api_Row, 0⟩), (135, ⟨T_api_Row, 0⟩), (137, ⟨(.opq 1), 0⟩), (155, ⟨T_pack_Writer, 0⟩), (156, ⟨T_pack_Writer, 0⟩), (165, ⟨T_api_Tag, 0⟩), (166, ⟨T_api_Tag, 0⟩), (167, ⟨T_api_Rule, 0⟩), (168, ⟨T_api_Rule, 0⟩), (170, ⟨(.opq 1), 0⟩), (173, ⟨T_pack_Reader, 0⟩), (174, ⟨T_pack_Reader, 0⟩), (187, ⟨(.opq 1), 0⟩), (189, ⟨(.opq 1), 0⟩), (193, ⟨(.opq 0), 0⟩), (194, ⟨T_acts_strip, 0⟩), (195, ⟨T_acts_strip, 0⟩), (198, ⟨(.int .u64), 0⟩), (204, ⟨(.opq 1), 0⟩), (206, ⟨(.opq 1), 0⟩), (208, ⟨(.slice T_glob_piece), 16⟩), (231, ⟨(.slice T_glob_piece), 16⟩), (234, ⟨T_glob_piece, 0⟩), (235, ⟨T_glob_piece, 0⟩), (246, ⟨T_glob_piece, 0⟩), (247, ⟨T_glob_piece, 0⟩)]
noncomputable def firstCells : List Value := Lib.firstTab.map fun z => Value.int .u8 z
noncomputable def acceptCells : List Value := (List.range 16).flatMap fun i => [Value.int .u8 (Lib.accLo i), Value.int .u8 (Lib.accHi i)]
noncomputable instance : Gl := ⟨[(0, fun cs => cs = firstCells), (1, fun cs => cs = acceptCells), (2, fun cs => ∃ m, cs = [.int .i64 m])]⟩
theorem tabIs : TabOk Tryz.prog tab := tabB_ok (by kernel_rfl)
theorem mixed : Tryz.prog.follows .mixedOrders = true := Tryz.checked.mixed
end Go.Proofs.YtcpkhpboemfglaaGreatDoor

namespace Go.Proofs
open Go.Shelf
def Tryz.l146_ren : Go.Shelf.Ren := ⟨fun | 146 => 174 | 221 => 203 | 268 => 216 | 138 => 217 | 143 => 218 | 195 => 224 | 197 => 220 | 218 => 225 | 219 => 226 | 260 => 227 | 217 => 211 | 225 => 230 | 224 => 231 | 267 => 232 | 266 => 223 | 314 => 234 | n => n, fun | 9 => 9 | 31 => 67 | 3 => 3 | 4 => 4 | 0 => 0 | 105 => 243 | 21 => 21 | 5 => 5 | 46 => 198 | 119 => 237 | 139 => 240 | 138 => 239 | 146 => 252 | 51 => 251 | n => n, fun | 1 => 2 | 3 => 0 | 4 => 1 | n => n⟩
theorem Tryz.l146 : Go.Proofs.Lays.n146 Tryz.prog Tryz.l146_ren := {
  mixed := by kernel_rfl
  f138 := Tryz.func217.trans (congrArg some (by kernel_rfl))
  f143 := Tryz.func218.trans (congrArg some (by kernel_rfl))
  f146 := Tryz.func174.trans (congrArg some (by kernel_rfl))
  f195 := Tryz.func224.trans (congrArg some (by kernel_rfl))
  f197 := Tryz.func220.trans (congrArg some (by kernel_rfl))
  f217 := Tryz.func211.trans (congrArg some (by kernel_rfl))
  f218 := Tryz.func225.trans (congrArg some (by kernel_rfl))
  f219 := Tryz.func226.trans (congrArg some (by kernel_rfl))
  f221 := Tryz.func203.trans (congrArg some (by kernel_rfl))
  f224 := Tryz.func231.trans (congrArg some (by kernel_rfl))
  f225 := Tryz.func230.trans (congrArg some (by kernel_rfl))
  f260 := Tryz.func227.trans (congrArg some (by kernel_rfl))
  f266 := Tryz.func223.trans (congrArg some (by kernel_rfl))
  f267 := Tryz.func232.trans (congrArg some (by kernel_rfl))
  f268 := Tryz.func216.trans (congrArg some (by kernel_rfl))
  f314 := Tryz.func234.trans (congrArg some (by kernel_rfl))
  t0 := Tryz.underlying0
  a0 := Tryz.isAgg0
  z0 := Tryz.sizeOf0
  v0 := Tryz.zeroValue0
  t3 := Tryz.underlying3
  a3 := Tryz.isAgg3
  z3 := Tryz.sizeOf3
  v3 := Tryz.zeroValue3
  t4 := Tryz.underlying4
  a4 := Tryz.isAgg4
  z4 := Tryz.sizeOf4
  v4 := Tryz.zeroValue4
  t5 := Tryz.underlying5
  a5 := Tryz.isAgg5
  z5 := Tryz.sizeOf5
  v5 := Tryz.zeroValue5
  t9 := Tryz.underlying9
  a9 := Tryz.isAgg9
  z9 := Tryz.sizeOf9
  v9 := Tryz.zeroValue9
  t21 := Tryz.underlying21
  a21 := Tryz.isAgg21
  z21 := Tryz.sizeOf21
  v21 := Tryz.zeroValue21
  t31 := Tryz.underlying67
  a31 := Tryz.isAgg67
  z31 := Tryz.sizeOf67
  v31 := Tryz.zeroValue67
  t46 := Tryz.underlying198
  a46 := Tryz.isAgg198
  z46 := Tryz.sizeOf198
  v46 := Tryz.zeroValue198
  t51 := Tryz.underlying251
  a51 := Tryz.isAgg251
  z51 := Tryz.sizeOf251
  v51 := Tryz.zeroValue251
  t105 := Tryz.underlying243
  a105 := Tryz.isAgg243
  z105 := Tryz.sizeOf243
  v105 := Tryz.zeroValue243
  t119 := Tryz.underlying237
  a119 := Tryz.isAgg237
  z119 := Tryz.sizeOf237
  t138 := Tryz.underlying239
  a138 := Tryz.isAgg239
  z138 := Tryz.sizeOf239
  v138 := Tryz.zeroValue239
  t139 := Tryz.underlying240
  a139 := Tryz.isAgg240
  z139 := Tryz.sizeOf240
  v139 := Tryz.zeroValue240
  t146 := Tryz.underlying252
  a146 := Tryz.isAgg252
  z146 := Tryz.sizeOf252
  v146 := Tryz.zeroValue252
  g1 := by kernel_rfl
  g3 := by kernel_rfl
  g4 := by kernel_rfl }
def Tryz.l160_ren : Go.Shelf.Ren := ⟨fun | 160 => 175 | 232 => 205 | 231 => 204 | 227 => 206 | 234 => 208 | 233 => 207 | 236 => 210 | 235 => 209 | 228 => 219 | 271 => 222 | 151 => 221 | 197 => 220 | 120 => 229 | 152 => 228 | 260 => 227 | 137 => 176 | 119 => 233 | 224 => 231 | 225 => 230 | 217 => 211 | 266 => 223 | n => n, fun | 9 => 9 | 4 => 4 | 3 => 3 | 5 => 5 | 117 => 225 | 116 => 224 | 0 => 0 | 124 => 228 | 21 => 21 | 105 => 243 | 46 => 198 | 119 => 237 | 139 => 240 | 138 => 239 | n => n, fun | 3 => 0 | 4 => 1 | n => n⟩
theorem Tryz.l160 : Go.Proofs.Lays.n160 Tryz.prog Tryz.l160_ren := {
  mixed := by kernel_rfl
  f119 := Tryz.func233.trans (congrArg some (by kernel_rfl))
  f120 := Tryz.func229.trans (congrArg some (by kernel_rfl))
  f137 := Tryz.func176.trans (congrArg some (by kernel_rfl))
  f151 := Tryz.func221.trans (congrArg some (by kernel_rfl))
  f152 := Tryz.func228.trans (congrArg some (by kernel_rfl))
  f160 := Tryz.func175.trans (congrArg some (by kernel_rfl))
  f197 := Tryz.func220.trans (congrArg some (by kernel_rfl))
  f217 := Tryz.func211.trans (congrArg some (by kernel_rfl))
  f224 := Tryz.func231.trans (congrArg some (by kernel_rfl))
  f225 := Tryz.func230.trans (congrArg some (by kernel_rfl))
  f227 := Tryz.func206.trans (congrArg some (by kernel_rfl))
  f228 := Tryz.func219.trans (congrArg some (by kernel_rfl))
  f231 := Tryz.func204.trans (congrArg some (by kernel_rfl))
  f232 := Tryz.func205.trans (congrArg some (by kernel_rfl))
  f233 := Tryz.func207.trans (congrArg some (by kernel_rfl))
  f234 := Tryz.func208.trans (congrArg some (by kernel_rfl))
  f235 := Tryz.func209.trans (congrArg some (by kernel_rfl))
  f236 := Tryz.func210.trans (congrArg some (by kernel_rfl))
  f260 := Tryz.func227.trans (congrArg some (by kernel_rfl))
  f266 := Tryz.func223.trans (congrArg some (by kernel_rfl))
  f271 := Tryz.func222.trans (congrArg some (by kernel_rfl))
  t0 := Tryz.underlying0
  a0 := Tryz.isAgg0
  z0 := Tryz.sizeOf0
  v0 := Tryz.zeroValue0
  t3 := Tryz.underlying3
  a3 := Tryz.isAgg3
  z3 := Tryz.sizeOf3
  v3 := Tryz.zeroValue3
  t4 := Tryz.underlying4
  a4 := Tryz.isAgg4
  z4 := Tryz.sizeOf4
  v4 := Tryz.zeroValue4
  t5 := Tryz.underlying5
  a5 := Tryz.isAgg5
  z5 := Tryz.sizeOf5
  v5 := Tryz.zeroValue5
  t9 := Tryz.underlying9
  a9 := Tryz.isAgg9
  z9 := Tryz.sizeOf9
  v9 := Tryz.zeroValue9
  t21 := Tryz.underlying21
  a21 := Tryz.isAgg21
  z21 := Tryz.sizeOf21
  v21 := Tryz.zeroValue21
  t46 := Tryz.underlying198
  a46 := Tryz.isAgg198
  z46 := Tryz.sizeOf198
  v46 := Tryz.zeroValue198
  t105 := Tryz.underlying243
  a105 := Tryz.isAgg243
  z105 := Tryz.sizeOf243
  v105 := Tryz.zeroValue243
  t116 := Tryz.underlying224
  a116 := Tryz.isAgg224
  z116 := Tryz.sizeOf224
  t117 := Tryz.underlying225
  a117 := Tryz.isAgg225
  z117 := Tryz.sizeOf225
  v117 := Tryz.zeroValue225
  t119 := Tryz.underlying237
  a119 := Tryz.isAgg237
  z119 := Tryz.sizeOf237
  t124 := Tryz.underlying228
  a124 := Tryz.isAgg228
  z124 := Tryz.sizeOf228
  v124 := Tryz.zeroValue228
  t138 := Tryz.underlying239
  a138 := Tryz.isAgg239
  z138 := Tryz.sizeOf239
  v138 := Tryz.zeroValue239
  t139 := Tryz.underlying240
  a139 := Tryz.isAgg240
  z139 := Tryz.sizeOf240
  v139 := Tryz.zeroValue240
  g3 := by kernel_rfl
  g4 := by kernel_rfl }
def Tryz.l196_ren : Go.Shelf.Ren := ⟨fun | 196 => 192 | 259 => 215 | n => n, fun | 9 => 9 | 4 => 4 | 3 => 3 | 5 => 5 | 12 => 12 | 119 => 237 | 0 => 0 | 46 => 198 | 139 => 240 | 138 => 239 | 53 => 31 | n => n, fun | 3 => 0 | 4 => 1 | n => n⟩
theorem Tryz.l196 : Go.Proofs.Lays.n196 Tryz.prog Tryz.l196_ren := {
  mixed := by kernel_rfl
  f196 := Tryz.func192.trans (congrArg some (by kernel_rfl))
  f259 := Tryz.func215.trans (congrArg some (by kernel_rfl))
  t0 := Tryz.underlying0
  a0 := Tryz.isAgg0
  z0 := Tryz.sizeOf0
  v0 := Tryz.zeroValue0
  t3 := Tryz.underlying3
  a3 := Tryz.isAgg3
  z3 := Tryz.sizeOf3
  v3 := Tryz.zeroValue3
  t4 := Tryz.underlying4
  a4 := Tryz.isAgg4
  z4 := Tryz.sizeOf4
  v4 := Tryz.zeroValue4
  t5 := Tryz.underlying5
  a5 := Tryz.isAgg5
  z5 := Tryz.sizeOf5
  v5 := Tryz.zeroValue5
  t9 := Tryz.underlying9
  a9 := Tryz.isAgg9
  z9 := Tryz.sizeOf9
  v9 := Tryz.zeroValue9
  t12 := Tryz.underlying12
  a12 := Tryz.isAgg12
  z12 := Tryz.sizeOf12
  v12 := Tryz.zeroValue12
  t46 := Tryz.underlying198
  a46 := Tryz.isAgg198
  z46 := Tryz.sizeOf198
  v46 := Tryz.zeroValue198
  t53 := Tryz.underlying31
  a53 := Tryz.isAgg31
  z53 := Tryz.sizeOf31
  v53 := Tryz.zeroValue31
  t119 := Tryz.underlying237
  a119 := Tryz.isAgg237
  z119 := Tryz.sizeOf237
  t138 := Tryz.underlying239
  a138 := Tryz.isAgg239
  z138 := Tryz.sizeOf239
  v138 := Tryz.zeroValue239
  t139 := Tryz.underlying240
  a139 := Tryz.isAgg240
  z139 := Tryz.sizeOf240
  v139 := Tryz.zeroValue240
  g3 := by kernel_rfl
  g4 := by kernel_rfl }
def Tryz.l137_ren : Go.Shelf.Ren := ⟨fun | 137 => 176 | 217 => 211 | 266 => 223 | n => n, fun | 9 => 9 | 5 => 5 | 3 => 3 | n => n, fun | n => n⟩
theorem Tryz.l137 : Go.Proofs.Lays.n137 Tryz.prog Tryz.l137_ren := {
  mixed := by kernel_rfl
  f137 := Tryz.func176.trans (congrArg some (by kernel_rfl))
  f217 := Tryz.func211.trans (congrArg some (by kernel_rfl))
  f266 := Tryz.func223.trans (congrArg some (by kernel_rfl))
  t3 := Tryz.underlying3
  a3 := Tryz.isAgg3
  z3 := Tryz.sizeOf3
  v3 := Tryz.zeroValue3
  t5 := Tryz.underlying5
  a5 := Tryz.isAgg5
  z5 := Tryz.sizeOf5
  v5 := Tryz.zeroValue5
  t9 := Tryz.underlying9
  a9 := Tryz.isAgg9
  z9 := Tryz.sizeOf9
  v9 := Tryz.zeroValue9 }
end Go.Proofs
namespace Go.Proofs.YtcpkhpboemfglaaGreatDoor
open Go Go.Va Go.Proofs
theorem acc_get : ∀ (i : Nat), i < 16 → acceptCells[2 * i]? = some (Value.int .u8 (Lib.accLo i)) ∧ acceptCells[2 * i + 1]? = some (Value.int .u8 (Lib.accHi i))
  | 0, _ | 1, _ | 2, _ | 3, _ | 4, _ | 5, _ | 6, _ | 7, _ | 8, _ | 9, _ | 10, _ | 11, _ | 12, _ | 13, _ | 14, _ | 15, _ => ⟨rfl, rfl⟩
  | n + 16, h => absurd h (by omega)
theorem utf8Tabs {E : Env} {w : World} (h : GlOk E w) : Lib.Utf8Tabs (Tryz.l196_ren.g 3) (Tryz.l196_ren.g 4) w := by
  obtain ⟨_, c0, e0, h0⟩ := h (0, fun cs => cs = firstCells) (by simp [Gl.tab])
  obtain ⟨_, c1, e1, h1⟩ := h (1, fun cs => cs = acceptCells) (by simp [Gl.tab])
  have e0 : c0 = firstCells := e0
  have e1 : c1 = acceptCells := e1
  subst e0 e1
  have h0 := h0.2
  have h1 := h1.2
  refine ⟨fun c hc => ?_, fun i hi => ?_⟩
  · have := h0 c (by simp [firstCells, Lib.firstTab]; exact hc)
    simp [firstCells, Lib.firstTab] at this
    exact this
  · have hl : acceptCells.length = 32 := by kernel_rfl
    have a0 := h1 (2 * i) (by rw [hl]; omega)
    have a1 := h1 (2 * i + 1) (by rw [hl]; omega)
    obtain ⟨e0, e1⟩ := acc_get i hi
    rw [List.getElem?_eq_getElem (by rw [hl]; omega)] at e0 e1
    simp only [Option.some.injEq] at e0 e1
    simp only [Nat.zero_add] at a0 a1
    rw [e0] at a0
    rw [e1] at a1
    exact ⟨a0, a1⟩
theorem maxLen_cell {E : Env} {w : World} (h : GlOk E w) : ∃ m, w.cell? ⟨Tryz.l146_ren.g 1, 0, none⟩ = some (.int .i64 m) := by
  obtain ⟨_, c, ⟨m, e⟩, h2⟩ := h (2, fun cs => ∃ m, cs = [.int .i64 m]) (by simp [Gl.tab])
  have e : c = [.int .i64 m] := e
  subst e
  have := h2.2 0 (by simp)
  exact ⟨m, this⟩
namespace F_unicode_utf8_ValidString
abbrev ia : List Ai := [.dat .str]
abbrev io : List (Nat × Oi) := [(2, .dat .bool)]
noncomputable def f (s : ByteArray) : Option (DOut ia io) := if s.size ≤ 9223372036854775807 then some (Lib.validD s.data.toList, ()) else none
theorem ok : FnOk Tryz.prog 192 ia io (fun v => f v.1) := by
  refine leaf_ok ⟨Tryz.f192, Tryz.func192, by kernel_rfl, by kernel_rfl⟩ rfl (fun _ => rfl) (fun _ => rfl) (fun v u h E w vals hgl hc => ?_)
  obtain ⟨x, vs, rfl, h1, h3⟩ := hc
  have h3 : vs = [] := h3
  subst h3
  have h1 : x = .string v.1 := V_str.1 h1
  subst h1
  unfold f at h
  split at h
  · next hs =>
    injection h with h
    subst h
    refine (Any.utf8_ValidString Tryz.l196 v.1 w hs (utf8Tabs hgl)).mono ?_
    rintro e w' ⟨rfl, hb⟩
    exact ⟨_, rfl, ⟨hb.os, hb.tape, hb.output, hb.size, hb.block⟩, fun E => V_bool.2 rfl⟩
  · exact absurd h (by simp)
noncomputable def en : Entry := mkEntry 192 ia io (fun v => f v.1)
end F_unicode_utf8_ValidString
namespace F_strings_IndexByte
abbrev ia : List Ai := [.dat .str, .dat (.int .u8)]
abbrev io : List (Nat × Oi) := [(4, .dat (.int .i64))]
noncomputable def f (s : ByteArray) (c : Int) : Option (DOut ia io) := some (Lib.indexByte s.data.toList c.toNat.toUInt8, ())
theorem ok : FnOk Tryz.prog 176 ia io (fun v => f v.1 v.2.1) := by
  refine leaf_ok ⟨Tryz.f176, Tryz.func176, by kernel_rfl, by kernel_rfl⟩ rfl (fun _ => rfl) (fun _ => rfl) (fun v u h E w vals hgl hc => ?_)
  obtain ⟨x, vs, rfl, h1, y, vs', rfl, h2, h3⟩ := hc
  have h3 : vs' = [] := h3
  subst h3
  have h1 : x = .string v.1 := V_str.1 h1
  have h2 : y = .int .u8 v.2.1 := V_int.1 h2
  subst h1 h2
  injection h with h
  subst h
  refine (Any.strings_IndexByte Tryz.l137 v.1 v.2.1 w).mono ?_
  rintro e w' ⟨rfl, rfl⟩
  exact ⟨_, rfl, .refl _, fun E => V_int.2 rfl⟩
noncomputable def en : Entry := mkEntry 176 ia io (fun v => f v.1 v.2.1)
end F_strings_IndexByte
namespace F_strings_Trim
abbrev ia : List Ai := [.dat .str, .dat .str]
abbrev io : List (Nat × Oi) := [(4, .dat .str)]
noncomputable def f (s c : ByteArray) : Option (DOut ia io) := if s.size ≤ 9223372036854775807 ∧ c.size < 4294967281 ∧ (∀ b ∈ c.data.toList, b.toNat < 128) then some (⟨(Lib.trimS s.data.toList c.data.toList).toArray⟩, ()) else none
theorem zero116 (w : World) : (zeroValue (Tryz.l160_ren.t 116)).run Tryz.prog w = .ok (.agg (Array.replicate 256 (.bool false))) w := by
  have h : Tryz.prog.info? (Tryz.l160_ren.t 116) = some ((Tryz.prog.info? (Tryz.l160_ren.t 116)).getD default) := by kernel_rfl
  have h2 : ((Tryz.prog.info? (Tryz.l160_ren.t 116)).getD default).zero = some (.agg (Array.replicate 256 (.bool false))) := by kernel_rfl
  simp only [zeroValue, Sem.run_bind, Va.run_typeInfo h, Result.andThen_ok, h2, Sem.run_pure]
theorem ok : FnOk Tryz.prog 175 ia io (fun v => f v.1 v.2.1) := by
  refine leaf_ok ⟨Tryz.f175, Tryz.func175, by kernel_rfl, by kernel_rfl⟩ rfl (fun _ => rfl) (fun _ => rfl) (fun v u h E w vals hgl hc => ?_)
  obtain ⟨x, vs, rfl, h1, y, vs', rfl, h2, h3⟩ := hc
  have h3 : vs' = [] := h3
  subst h3
  have h1 : x = .string v.1 := V_str.1 h1
  have h2 : y = .string v.2.1 := V_str.1 h2
  subst h1 h2
  unfold f at h
  split at h
  · next hs =>
    injection h with h
    subst h
    refine (Any.strings_Trim_ascii Tryz.l160 zero116 (by kernel_rfl) v.1 v.2.1 w hs.1 hs.2.1 (fun j b hj => hs.2.2 b (List.mem_of_getElem? hj))).mono ?_
    rintro e w' ⟨rfl, hb⟩
    exact ⟨_, rfl, ⟨hb.os, hb.tape, hb.output, hb.size, hb.block⟩, fun E => V_str.2 rfl⟩
  · exact absurd h (by simp)
noncomputable def en : Entry := mkEntry 175 ia io (fun v => f v.1 v.2.1)
end F_strings_Trim
namespace F_strings_Split
abbrev ia : List Ai := [.dat .str, .dat .str]
abbrev io : List (Nat × Oi) := [(4, .val (.r 0 .str))]
noncomputable def f (s sep : ByteArray) : Option (DOut ia io) := if s.size < 4294967281 ∧ 1 ≤ sep.size then some (Lib.splitB sep 0 (Lib.countB s sep) s, ()) else none
theorem ok : FnOk Tryz.prog 174 ia io (fun v => f v.1 v.2.1) := by
  refine leaf_row_ok ⟨Tryz.f174, Tryz.func174, by kernel_rfl, by kernel_rfl⟩ rfl (fun _ => rfl) (fun v u h E w vals hgl hc => ?_)
  obtain ⟨x, vs, rfl, h1, y, vs', rfl, h2, h3⟩ := hc
  have h3 : vs' = [] := h3
  subst h3
  have h1 : x = .string v.1 := V_str.1 h1
  have h2 : y = .string v.2.1 := V_str.1 h2
  subst h1 h2
  unfold f at h
  split at h
  · next hs =>
    injection h with h
    subst h
    obtain ⟨m, hm⟩ := maxLen_cell hgl
    refine (Any.strings_Split Tryz.l146 (by kernel_rfl) v.1 v.2.1 m w hs.1 hm hs.2).mono ?_
    rintro e w' ⟨rfl, rfl⟩
    have hl := Lib.splitB_all v.2.1 hs.2 0 _ v.1 rfl
    refine ⟨_, _, by rw [hl], rfl, fun S w' => ?_⟩
    have : ∀ l : List ByteArray, RdL (Rd S w' .str) l (l.map Value.string) := by
      intro l
      induction l with
      | nil => rfl
      | cons x l ih => exact ⟨[.string x], l.map Value.string, rfl, rfl, ih⟩
    exact this _
  · exact absurd h (by simp)
noncomputable def en : Entry := mkEntry 174 ia io (fun v => f v.1 v.2.1)
end F_strings_Split
end Go.Proofs.YtcpkhpboemfglaaGreatDoor

namespace Go.Proofs.YtcpkhpboemfglaaGreatDoor
open Go Go.Va Go.Proofs
namespace F_label_Clean
abbrev ia : List Ai := [.dat .str]
abbrev io : List (Nat × Oi) := [(2, .dat .bool)]
abbrev R : Type := DOut ia io
noncomputable def X (n : Nat) : Ctx := ⟨⟨tab, [F_unicode_utf8_ValidString.en], 0, []⟩, 21, bnOf 0 ia⟩
abbrev g1 : List Si := [.dat 0 .str, .val 6 (.r 200600 (.int .u8)), .dat 7 (.int .i64), .dat 8 (.int .i64)]
abbrev g2 : List Si := [.dat 0 .str]
noncomputable def T : CT := (.s .o (.s (.s .o (.b (.l g1 .o))) (.r g2 .o)))
noncomputable def J1 (n : Nat) (m : Nat) : ByteArray × (List (Int)) × Int × Int × Unit → Option R := jL (X n) n T (bodyOf Tryz.f165) (endK ia io) g1 [1, 0, 1, 0] [] m
noncomputable def J2 (n : Nat) : ByteArray × Unit → Option R := jR (X n) n T (bodyOf Tryz.f165) (endK ia io) g2 [1, 1] []
noncomputable def f (n : Nat) (s_ : ByteArray) : Option R := fRun (X n) n T Tryz.f165 ia io (s_, ())
theorem e0 (n : Nat) (s_ : ByteArray) : f n s_ =
  J1 n n (s_, (ofBytes s_), (((ofBytes s_).length : Nat) : Int), 0, ()) := (hideF_eq _).trans (by kernel_rfl)
theorem e1 (n m : Nat) (s_ : ByteArray) (t6 : List (Int)) (t7 : Int) (t8 : Int) : J1 n (m + 1) (s_, t6, t7, t8, ()) =
  bIf ((hide (decide (t8 < t7)))) (
    gIf (0 ≤ t8 ∧ t8 < ((t6.length : Nat) : Int)) (
      bIf ((hide (decide ((List.getD t6 (0 + t8.toNat) 0) < (32 : Int))))) (
        some (false, ())
        ) (
        bIf ((hide ((List.getD t6 (0 + t8.toNat) 0) == (127 : Int)))) (
          some (false, ())
          ) (
          J1 n m (s_, t6, t7, (IntKind.i64.wrap (t8 + (1 : Int))), ())
          )
        )
      )
    ) (
    J2 n (s_, ())
    ) := (hideF_eq _).trans (by kernel_rfl)
theorem e2 (n : Nat) (s_ : ByteArray) : J2 n (s_, ()) =
  bnd (F_unicode_utf8_ValidString.f s_) fun u1 =>
  some (u1.1, ()) := (hideF_eq _).trans (by kernel_rfl)
theorem phi (n : Nat) : ∀ e ∈ (X n).c.Φ, EntryOk Tryz.prog e := allE_cons (mkEntry_ok (F_unicode_utf8_ValidString.ok)) (allE_nil)
theorem ok (n : Nat) : FnOk Tryz.prog 165 ia io (fRun (X n) n T Tryz.f165 ia io) := tree_ok mixed tabIs (phi n) Tryz.func165 (by kernel_rfl) rfl
noncomputable def en (n : Nat) : Entry := mkEntry 165 ia io (fRun (X n) n T Tryz.f165 ia io)
end F_label_Clean
end Go.Proofs.YtcpkhpboemfglaaGreatDoor

namespace Go.Proofs.YtcpkhpboemfglaaGreatDoor
open Go Go.Va Go.Proofs
namespace F_ref06_Clean
abbrev ia : List Ai := [.dat .str]
abbrev io : List (Nat × Oi) := [(2, .dat .bool)]
abbrev R : Type := DOut ia io
noncomputable def X (n : Nat) : Ctx := ⟨⟨tab, [], 0, []⟩, 109, bnOf 0 ia⟩
abbrev g1 : List Si := [.dat 0 .str, .dat 3 (.int .i64)]
abbrev g2 : List Si := [.dat 0 .str, .dat 3 (.int .i64), .dat 4 (.int .i64), .dat 21 .bool]
abbrev g3 : List Si := [.dat 0 .str, .dat 3 (.int .i64), .dat 4 (.int .i64), .dat 30 .bool]
abbrev g4 : List Si := [.dat 0 .str, .dat 3 (.int .i64), .dat 4 (.int .i64), .dat 39 .bool]
abbrev g5 : List Si := [.dat 0 .str, .dat 3 (.int .i64), .dat 4 (.int .i64), .dat 5 (.int .i64), .dat 6 (.int .i64), .dat 7 (.int .i64)]
abbrev g6 : List Si := [.dat 0 .str, .dat 3 (.int .i64), .dat 5 (.int .i64), .dat 6 (.int .i64), .dat 7 (.int .i64)]
abbrev g7 : List Si := [.dat 0 .str, .dat 3 (.int .i64), .dat 5 (.int .i64), .dat 6 (.int .i64), .dat 7 (.int .i64), .dat 8 (.int .i64)]
abbrev g8 : List Si := [.dat 0 .str, .dat 3 (.int .i64), .dat 5 (.int .i64), .dat 6 (.int .i64), .dat 7 (.int .i64), .dat 8 (.int .i64)]
abbrev g9 : List Si := [.dat 0 .str, .dat 3 (.int .i64), .dat 5 (.int .i64), .dat 6 (.int .i64), .dat 7 (.int .i64), .dat 8 (.int .i64)]
abbrev g10 : List Si := [.dat 0 .str, .dat 3 (.int .i64), .dat 5 (.int .i64), .dat 6 (.int .i64), .dat 7 (.int .i64)]
abbrev g11 : List Si := [.dat 0 .str, .dat 3 (.int .i64), .dat 5 (.int .i64)]
abbrev g12 : List Si := []
noncomputable def T : CT := (.s .o (.s (.s .o (.b (.l g1 (.s .o (.b (.s .o (.s .o (.s (.b (.s .o (.c .o (.s .o (.r g2 (.c .o (.s .o (.r g3 (.c .o (.s .o (.r g4 .o))))))))))) (.r g5 (.s .o (.r g6 (.s (.s .o (.b (.l g7 (.s .o (.s (.b (.s .o (.r g8 .o))) (.r g9 .o)))))) (.r g10 (.s .o (.r g11 .o))))))))))))))) (.r g12 .o)))
noncomputable def J1 (n : Nat) (m : Nat) : ByteArray × Int × Unit → Option R := jL (X n) n T (bodyOf Tryz.f77) (endK ia io) g1 [1, 0, 1, 0] [] m
noncomputable def J2 (n m1 : Nat) : ByteArray × Int × Int × Bool × Unit → Option R := jR (X n) n T (bodyOf Tryz.f77) (endK ia io) g2 [1, 0, 1, 0, 0, 1, 0, 1, 1, 0, 0, 1, 1, 1] [m1]
noncomputable def J3 (n m1 : Nat) : ByteArray × Int × Int × Bool × Unit → Option R := jR (X n) n T (bodyOf Tryz.f77) (endK ia io) g3 [1, 0, 1, 0, 0, 1, 0, 1, 1, 0, 0, 1, 1, 1, 1, 1] [m1]
noncomputable def J4 (n m1 : Nat) : ByteArray × Int × Int × Bool × Unit → Option R := jR (X n) n T (bodyOf Tryz.f77) (endK ia io) g4 [1, 0, 1, 0, 0, 1, 0, 1, 1, 0, 0, 1, 1, 1, 1, 1, 1, 1] [m1]
noncomputable def J5 (n m1 : Nat) : ByteArray × Int × Int × Int × Int × Int × Unit → Option R := jR (X n) n T (bodyOf Tryz.f77) (endK ia io) g5 [1, 0, 1, 0, 0, 1, 0, 1, 1, 1] [m1]
noncomputable def J6 (n m1 : Nat) : ByteArray × Int × Int × Int × Int × Unit → Option R := jR (X n) n T (bodyOf Tryz.f77) (endK ia io) g6 [1, 0, 1, 0, 0, 1, 0, 1, 1, 1, 1] [m1]
noncomputable def J7 (n m1 : Nat) (m : Nat) : ByteArray × Int × Int × Int × Int × Int × Unit → Option R := jL (X n) n T (bodyOf Tryz.f77) (endK ia io) g7 [1, 0, 1, 0, 0, 1, 0, 1, 1, 1, 1, 0, 1, 0] [m1] m
noncomputable def J8 (n m1 m7 : Nat) : ByteArray × Int × Int × Int × Int × Int × Unit → Option R := jR (X n) n T (bodyOf Tryz.f77) (endK ia io) g8 [1, 0, 1, 0, 0, 1, 0, 1, 1, 1, 1, 0, 1, 0, 0, 1, 0, 0, 1] [m1, m7]
noncomputable def J9 (n m1 m7 : Nat) : ByteArray × Int × Int × Int × Int × Int × Unit → Option R := jR (X n) n T (bodyOf Tryz.f77) (endK ia io) g9 [1, 0, 1, 0, 0, 1, 0, 1, 1, 1, 1, 0, 1, 0, 0, 1, 1] [m1, m7]
noncomputable def J10 (n m1 : Nat) : ByteArray × Int × Int × Int × Int × Unit → Option R := jR (X n) n T (bodyOf Tryz.f77) (endK ia io) g10 [1, 0, 1, 0, 0, 1, 0, 1, 1, 1, 1, 1] [m1]
noncomputable def J11 (n m1 : Nat) : ByteArray × Int × Int × Unit → Option R := jR (X n) n T (bodyOf Tryz.f77) (endK ia io) g11 [1, 0, 1, 0, 0, 1, 0, 1, 1, 1, 1, 1, 1] [m1]
noncomputable def J12 (n : Nat) : Unit → Option R := jR (X n) n T (bodyOf Tryz.f77) (endK ia io) g12 [1, 1] []
noncomputable def f (n : Nat) (s_ : ByteArray) : Option R := fRun (X n) n T Tryz.f77 ia io (s_, ())
theorem e0 (n : Nat) (s_ : ByteArray) : f n s_ =
  J1 n n (s_, 0, ()) := (hideF_eq _).trans (by kernel_rfl)
theorem e1 (n m : Nat) (s_ : ByteArray) (at_ : Int) : J1 n (m + 1) (s_, at_, ()) =
  bIf ((hide (decide (at_ < (s_.size : Int))))) (
    gIf (0 ≤ at_ ∧ at_ < (s_.size : Int)) (
      bIf ((hide (decide ((IntKind.i64.wrap (bt s_ at_)) < (128 : Int))))) (
        J5 n m (s_, at_, (IntKind.i64.wrap (bt s_ at_)), 1, (IntKind.i64.wrap (bt s_ at_)), 0, ())
        ) (
        bIf ((hide (decide ((IntKind.i64.wrap (bt s_ at_)) ≥ (192 : Int))))) (
          J2 n m (s_, at_, (IntKind.i64.wrap (bt s_ at_)), (hide (decide ((IntKind.i64.wrap (bt s_ at_)) < (224 : Int)))), ())
          ) (
          J2 n m (s_, at_, (IntKind.i64.wrap (bt s_ at_)), false, ())
          )
        )
      )
    ) (
    J12 n (())
    ) := (hideF_eq _).trans (by kernel_rfl)
theorem e2 (n m1 : Nat) (s_ : ByteArray) (at_ : Int) (b : Int) (t21 : Bool) : J2 n m1 (s_, at_, b, t21, ()) =
  bIf (t21) (
    J5 n m1 (s_, at_, b, 2, (IntKind.i64.wrap (b - (192 : Int))), 128, ())
    ) (
    bIf ((hide (decide (b ≥ (224 : Int))))) (
      J3 n m1 (s_, at_, b, (hide (decide (b < (240 : Int)))), ())
      ) (
      J3 n m1 (s_, at_, b, false, ())
      )
    ) := (hideF_eq _).trans (by kernel_rfl)
theorem e3 (n m1 : Nat) (s_ : ByteArray) (at_ : Int) (b : Int) (t30 : Bool) : J3 n m1 (s_, at_, b, t30, ()) =
  bIf (t30) (
    J5 n m1 (s_, at_, b, 3, (IntKind.i64.wrap (b - (224 : Int))), 2048, ())
    ) (
    bIf ((hide (decide (b ≥ (240 : Int))))) (
      J4 n m1 (s_, at_, b, (hide (decide (b < (248 : Int)))), ())
      ) (
      J4 n m1 (s_, at_, b, false, ())
      )
    ) := (hideF_eq _).trans (by kernel_rfl)
theorem e4 (n m1 : Nat) (s_ : ByteArray) (at_ : Int) (b : Int) (t39 : Bool) : J4 n m1 (s_, at_, b, t39, ()) =
  bIf (t39) (
    J5 n m1 (s_, at_, b, 4, (IntKind.i64.wrap (b - (240 : Int))), 65536, ())
    ) (
    some (false, ())
    ) := (hideF_eq _).trans (by kernel_rfl)
theorem e5 (n m1 : Nat) (s_ : ByteArray) (at_ : Int) (b : Int) (n_ : Int) (r : Int) (least : Int) : J5 n m1 (s_, at_, b, n_, r, least, ()) =
  bIf ((hide (decide (b < (32 : Int))))) (
    some (false, ())
    ) (
    bIf ((hide (b == (127 : Int)))) (
      some (false, ())
      ) (
      J6 n m1 (s_, at_, n_, r, least, ())
      )
    ) := (hideF_eq _).trans (by kernel_rfl)
theorem e6 (n m1 : Nat) (s_ : ByteArray) (at_ : Int) (n_ : Int) (r : Int) (least : Int) : J6 n m1 (s_, at_, n_, r, least, ()) =
  J7 n m1 n (s_, at_, n_, r, least, 1, ()) := (hideF_eq _).trans (by kernel_rfl)
theorem e7 (n m1 m : Nat) (s_ : ByteArray) (at_ : Int) (n_ : Int) (r : Int) (least : Int) (i : Int) : J7 n m1 (m + 1) (s_, at_, n_, r, least, i, ()) =
  bIf ((hide (decide (i < n_)))) (
    bIf ((hide (decide ((IntKind.i64.wrap (at_ + i)) ≥ (s_.size : Int))))) (
      some (false, ())
      ) (
      gIf (0 ≤ (IntKind.i64.wrap (at_ + i)) ∧ (IntKind.i64.wrap (at_ + i)) < (s_.size : Int)) (
        bIf ((hide (decide ((bt s_ (IntKind.i64.wrap (at_ + i))) < (128 : Int))))) (
          some (false, ())
          ) (
          gIf (0 ≤ (IntKind.i64.wrap (at_ + i)) ∧ (IntKind.i64.wrap (at_ + i)) < (s_.size : Int)) (
            bIf ((hide (decide ((bt s_ (IntKind.i64.wrap (at_ + i))) ≥ (192 : Int))))) (
              some (false, ())
              ) (
              J8 n m1 m (s_, at_, n_, r, least, i, ())
              )
            )
          )
        )
      )
    ) (
    J10 n m1 (s_, at_, n_, r, least, ())
    ) := (hideF_eq _).trans (by kernel_rfl)
theorem e8 (n m1 m7 : Nat) (s_ : ByteArray) (at_ : Int) (n_ : Int) (r : Int) (least : Int) (i : Int) : J8 n m1 m7 (s_, at_, n_, r, least, i, ()) =
  gIf (0 ≤ (IntKind.i64.wrap (at_ + i)) ∧ (IntKind.i64.wrap (at_ + i)) < (s_.size : Int)) (
    J9 n m1 m7 (s_, at_, n_, (IntKind.i64.wrap ((IntKind.i64.wrap ((IntKind.i64.wrap (r * (64 : Int))) + (IntKind.i64.wrap (bt s_ (IntKind.i64.wrap (at_ + i)))))) - (128 : Int))), least, i, ())
    ) := (hideF_eq _).trans (by kernel_rfl)
theorem e9 (n m1 m7 : Nat) (s_ : ByteArray) (at_ : Int) (n_ : Int) (r : Int) (least : Int) (i : Int) : J9 n m1 m7 (s_, at_, n_, r, least, i, ()) =
  J7 n m1 m7 (s_, at_, n_, r, least, (IntKind.i64.wrap (i + (1 : Int))), ()) := (hideF_eq _).trans (by kernel_rfl)
theorem e10 (n m1 : Nat) (s_ : ByteArray) (at_ : Int) (n_ : Int) (r : Int) (least : Int) : J10 n m1 (s_, at_, n_, r, least, ()) =
  bIf ((hide (decide (r < least)))) (
    some (false, ())
    ) (
    bIf ((hide (decide (r > (1114111 : Int))))) (
      some (false, ())
      ) (
      bIf ((hide (decide (r ≥ (55296 : Int))))) (
        bIf ((hide (decide (r ≤ (57343 : Int))))) (
          some (false, ())
          ) (
          J11 n m1 (s_, at_, n_, ())
          )
        ) (
        J11 n m1 (s_, at_, n_, ())
        )
      )
    ) := (hideF_eq _).trans (by kernel_rfl)
theorem e11 (n m1 : Nat) (s_ : ByteArray) (at_ : Int) (n_ : Int) : J11 n m1 (s_, at_, n_, ()) =
  J1 n m1 (s_, (IntKind.i64.wrap (at_ + n_)), ()) := (hideF_eq _).trans (by kernel_rfl)
theorem e12 (n : Nat) : J12 n (()) =
  some (true, ()) := (hideF_eq _).trans (by kernel_rfl)
theorem phi (n : Nat) : ∀ e ∈ (X n).c.Φ, EntryOk Tryz.prog e := allE_nil
theorem ok (n : Nat) : FnOk Tryz.prog 77 ia io (fRun (X n) n T Tryz.f77 ia io) := tree_ok mixed tabIs (phi n) Tryz.func77 (by kernel_rfl) rfl
noncomputable def en (n : Nat) : Entry := mkEntry 77 ia io (fRun (X n) n T Tryz.f77 ia io)
end F_ref06_Clean
end Go.Proofs.YtcpkhpboemfglaaGreatDoor

namespace Go.Proofs.YtcpkhpboemfglaaGreatDoor
open Go Go.Va Go.Proofs
namespace F_when_Clamp
abbrev ia : List Ai := [.dat (.int .i64)]
abbrev io : List (Nat × Oi) := [(2, .dat (.int .i64))]
abbrev R : Type := DOut ia io
noncomputable def X (n : Nat) : Ctx := ⟨⟨tab, [], 0, []⟩, 6, bnOf 0 ia⟩
noncomputable def T : CT := .o
noncomputable def f (n : Nat) (t : Int) : Option R := fRun (X n) n T Tryz.f42 ia io (t, ())
theorem e0 (n : Nat) (t : Int) : f n t =
  some ((maxI .i64 (-62135596800) (minI .i64 t 253402300799)), ()) := (hideF_eq _).trans (by kernel_rfl)
theorem phi (n : Nat) : ∀ e ∈ (X n).c.Φ, EntryOk Tryz.prog e := allE_nil
theorem ok (n : Nat) : FnOk Tryz.prog 42 ia io (fRun (X n) n T Tryz.f42 ia io) := tree_ok mixed tabIs (phi n) Tryz.func42 (by kernel_rfl) rfl
noncomputable def en (n : Nat) : Entry := mkEntry 42 ia io (fRun (X n) n T Tryz.f42 ia io)
end F_when_Clamp
end Go.Proofs.YtcpkhpboemfglaaGreatDoor

namespace Go.Proofs.YtcpkhpboemfglaaGreatDoor
open Go Go.Va Go.Proofs
namespace F_ref05_Clamp
abbrev ia : List Ai := [.dat (.int .i64)]
abbrev io : List (Nat × Oi) := [(2, .dat (.int .i64))]
abbrev R : Type := DOut ia io
noncomputable def X (n : Nat) : Ctx := ⟨⟨tab, [], 0, []⟩, 8, bnOf 0 ia⟩
noncomputable def T : CT := .o
noncomputable def f (n : Nat) (t : Int) : Option R := fRun (X n) n T Tryz.f46 ia io (t, ())
theorem e0 (n : Nat) (t : Int) : f n t =
  bIf ((hide (decide (t < (-62135596800 : Int))))) (
    some ((-62135596800), ())
    ) (
    bIf ((hide (decide (t > (253402300799 : Int))))) (
      some (253402300799, ())
      ) (
      some (t, ())
      )
    ) := (hideF_eq _).trans (by kernel_rfl)
theorem phi (n : Nat) : ∀ e ∈ (X n).c.Φ, EntryOk Tryz.prog e := allE_nil
theorem ok (n : Nat) : FnOk Tryz.prog 46 ia io (fRun (X n) n T Tryz.f46 ia io) := tree_ok mixed tabIs (phi n) Tryz.func46 (by kernel_rfl) rfl
noncomputable def en (n : Nat) : Entry := mkEntry 46 ia io (fRun (X n) n T Tryz.f46 ia io)
end F_ref05_Clamp
end Go.Proofs.YtcpkhpboemfglaaGreatDoor

namespace Go.Proofs.YtcpkhpboemfglaaGreatDoor
open Go Go.Va Go.Proofs
namespace F_mode_Sound
abbrev ia : List Ai := [.dat T_api_Lock]
abbrev io : List (Nat × Oi) := [(2, .dat .bool)]
abbrev R : Type := DOut ia io
noncomputable def X (n : Nat) : Ctx := ⟨⟨tab, [F_when_Clamp.en n], 0, []⟩, 19, bnOf 0 ia⟩
abbrev g1 : List Si := [.ref 1 1 T_api_Lock, .dat 10 .bool, .box 1 (.d T_api_Lock)]
noncomputable def T : CT := (.s .o (.s (.s .o (.b (.s .o (.c .o (.s .o (.r g1 .o)))))) .o))
noncomputable def J1 (n : Nat) : Bool × D_api_Lock × Unit → Option R := jR (X n) n T (bodyOf Tryz.f128) (endK ia io) g1 [1, 0, 1, 0, 1, 1, 1] []
noncomputable def f (n : Nat) (l : D_api_Lock) : Option R := fRun (X n) n T Tryz.f128 ia io (l, ())
theorem e0 (n : Nat) (l : D_api_Lock) : f n l =
  bIf ((hide (l.1 == (0 : Int)))) (
    some ((hide (l.2.1 == (0 : Int))), ())
    ) (
    bIf ((hide (l.1 == (1 : Int)))) (
      J1 n (true, l, ())
      ) (
      J1 n ((hide (l.1 == (2 : Int))), l, ())
      )
    ) := (hideF_eq _).trans (by kernel_rfl)
theorem e1 (n : Nat) (t10 : Bool) (l : D_api_Lock) : J1 n (t10, l, ()) =
  bIf (t10) (
    bnd (F_when_Clamp.f n l.2.1) fun u1 =>
    some ((hide (l.2.1 == u1.1)), ())
    ) (
    some (false, ())
    ) := (hideF_eq _).trans (by kernel_rfl)
theorem phi (n : Nat) : ∀ e ∈ (X n).c.Φ, EntryOk Tryz.prog e := allE_cons (mkEntry_ok (F_when_Clamp.ok n)) (allE_nil)
theorem ok (n : Nat) : FnOk Tryz.prog 128 ia io (fRun (X n) n T Tryz.f128 ia io) := tree_ok mixed tabIs (phi n) Tryz.func128 (by kernel_rfl) rfl
noncomputable def en (n : Nat) : Entry := mkEntry 128 ia io (fRun (X n) n T Tryz.f128 ia io)
end F_mode_Sound
end Go.Proofs.YtcpkhpboemfglaaGreatDoor

namespace Go.Proofs.YtcpkhpboemfglaaGreatDoor
open Go Go.Va Go.Proofs
namespace F_ref12_Sound
abbrev ia : List Ai := [.dat T_api_Lock]
abbrev io : List (Nat × Oi) := [(2, .dat .bool)]
abbrev R : Type := DOut ia io
noncomputable def X (n : Nat) : Ctx := ⟨⟨tab, [F_ref05_Clamp.en n], 0, []⟩, 25, bnOf 0 ia⟩
noncomputable def T : CT := .o
noncomputable def f (n : Nat) (l : D_api_Lock) : Option R := fRun (X n) n T Tryz.f52 ia io (l, ())
theorem e0 (n : Nat) (l : D_api_Lock) : f n l =
  bIf ((hide (l.1 == (0 : Int)))) (
    some ((hide (l.2.1 == (0 : Int))), ())
    ) (
    bIf ((hide (l.1 == (1 : Int)))) (
      bnd (F_ref05_Clamp.f n l.2.1) fun u1 =>
      some ((hide (u1.1 == l.2.1)), ())
      ) (
      bIf ((hide (l.1 == (2 : Int)))) (
        bnd (F_ref05_Clamp.f n l.2.1) fun u2 =>
        some ((hide (u2.1 == l.2.1)), ())
        ) (
        some (false, ())
        )
      )
    ) := (hideF_eq _).trans (by kernel_rfl)
theorem phi (n : Nat) : ∀ e ∈ (X n).c.Φ, EntryOk Tryz.prog e := allE_cons (mkEntry_ok (F_ref05_Clamp.ok n)) (allE_nil)
theorem ok (n : Nat) : FnOk Tryz.prog 52 ia io (fRun (X n) n T Tryz.f52 ia io) := tree_ok mixed tabIs (phi n) Tryz.func52 (by kernel_rfl) rfl
noncomputable def en (n : Nat) : Entry := mkEntry 52 ia io (fRun (X n) n T Tryz.f52 ia io)
end F_ref12_Sound
end Go.Proofs.YtcpkhpboemfglaaGreatDoor

namespace Go.Proofs.YtcpkhpboemfglaaGreatDoor
open Go Go.Va Go.Proofs
namespace F_tags_good
abbrev ia : List Ai := [.dat T_api_Tag]
abbrev io : List (Nat × Oi) := [(2, .dat .bool)]
abbrev R : Type := DOut ia io
noncomputable def X (n : Nat) : Ctx := ⟨⟨tab, [F_label_Clean.en n], 0, []⟩, 28, bnOf 0 ia⟩
noncomputable def T : CT := .o
noncomputable def f (n : Nat) (t : D_api_Tag) : Option R := fRun (X n) n T Tryz.f183 ia io (t, ())
theorem e0 (n : Nat) (t : D_api_Tag) : f n t =
  bIf ((hide (!eqS t.1 (⟨#[]⟩ : ByteArray)))) (
    bIf ((hide (decide ((t.1.size : Int) ≤ (64 : Int))))) (
      bIf ((hide (decide ((t.2.1.size : Int) ≤ (64 : Int))))) (
        bnd (F_label_Clean.f n t.1) fun u1 =>
        bIf (u1.1) (
          bnd (F_label_Clean.f n t.2.1) fun u2 =>
          some (u2.1, ())
          ) (
          some (false, ())
          )
        ) (
        some (false, ())
        )
      ) (
      some (false, ())
      )
    ) (
    some (false, ())
    ) := (hideF_eq _).trans (by kernel_rfl)
theorem phi (n : Nat) : ∀ e ∈ (X n).c.Φ, EntryOk Tryz.prog e := allE_cons (mkEntry_ok (F_label_Clean.ok n)) (allE_nil)
theorem ok (n : Nat) : FnOk Tryz.prog 183 ia io (fRun (X n) n T Tryz.f183 ia io) := tree_ok mixed tabIs (phi n) Tryz.func183 (by kernel_rfl) rfl
noncomputable def en (n : Nat) : Entry := mkEntry 183 ia io (fRun (X n) n T Tryz.f183 ia io)
end F_tags_good
end Go.Proofs.YtcpkhpboemfglaaGreatDoor

namespace Go.Proofs.YtcpkhpboemfglaaGreatDoor
open Go Go.Va Go.Proofs
namespace F_tags_Sound
abbrev ia : List Ai := [.dat (.slice T_api_Tag)]
abbrev io : List (Nat × Oi) := [(2, .dat .bool)]
abbrev R : Type := DOut ia io
noncomputable def X (n : Nat) : Ctx := ⟨⟨tab, [F_tags_good.en n], 0, []⟩, 34, bnOf 0 ia⟩
abbrev g1 : List Si := [.dat 0 (.slice T_api_Tag), .dat 8 (.slice T_api_Tag), .dat 9 (.int .i64), .dat 10 (.int .i64)]
abbrev g2 : List Si := []
noncomputable def T : CT := (.s .o (.s .o (.s (.s .o (.b (.l g1 .o))) (.r g2 .o))))
noncomputable def J1 (n : Nat) (m : Nat) : (List (D_api_Tag)) × (List (D_api_Tag)) × Int × Int × Unit → Option R := jL (X n) n T (bodyOf Tryz.f129) (endK ia io) g1 [1, 1, 0, 1, 0] [] m
noncomputable def J2 (n : Nat) : Unit → Option R := jR (X n) n T (bodyOf Tryz.f129) (endK ia io) g2 [1, 1, 1] []
noncomputable def f (n : Nat) (list : List (D_api_Tag)) : Option R := fRun (X n) n T Tryz.f129 ia io (list, ())
theorem e0 (n : Nat) (list : List (D_api_Tag)) : f n list =
  bIf ((hide (decide (((list.length : Nat) : Int) > (8 : Int))))) (
    some (false, ())
    ) (
    J1 n n (list, list, ((list.length : Nat) : Int), 0, ())
    ) := (hideF_eq _).trans (by kernel_rfl)
theorem e1 (n m : Nat) (list : List (D_api_Tag)) (t8 : List (D_api_Tag)) (t9 : Int) (t10 : Int) : J1 n (m + 1) (list, t8, t9, t10, ()) =
  bIf ((hide (decide (t10 < t9)))) (
    gIf (0 ≤ t10 ∧ t10 < ((t8.length : Nat) : Int)) (
      bnd (F_tags_good.f n (List.getD t8 t10.toNat (Va.dflt T_api_Tag))) fun u1 =>
      bIf ((!u1.1)) (
        some (false, ())
        ) (
        bIf ((hide (decide (t10 > (0 : Int))))) (
          gIf (0 ≤ (IntKind.i64.wrap (t10 - (1 : Int))) ∧ (IntKind.i64.wrap (t10 - (1 : Int))) < ((list.length : Nat) : Int)) (
            bIf ((hide (!ltS ((List.getD list ((IntKind.i64.wrap (t10 - (1 : Int))).toNat) (Va.dflt T_api_Tag)).1) ((List.getD t8 t10.toNat (Va.dflt T_api_Tag)).1)))) (
              some (false, ())
              ) (
              J1 n m (list, t8, t9, (IntKind.i64.wrap (t10 + (1 : Int))), ())
              )
            )
          ) (
          J1 n m (list, t8, t9, (IntKind.i64.wrap (t10 + (1 : Int))), ())
          )
        )
      )
    ) (
    J2 n (())
    ) := (hideF_eq _).trans (by kernel_rfl)
theorem e2 (n : Nat) : J2 n (()) =
  some (true, ()) := (hideF_eq _).trans (by kernel_rfl)
theorem phi (n : Nat) : ∀ e ∈ (X n).c.Φ, EntryOk Tryz.prog e := allE_cons (mkEntry_ok (F_tags_good.ok n)) (allE_nil)
theorem ok (n : Nat) : FnOk Tryz.prog 129 ia io (fRun (X n) n T Tryz.f129 ia io) := tree_ok mixed tabIs (phi n) Tryz.func129 (by kernel_rfl) rfl
noncomputable def en (n : Nat) : Entry := mkEntry 129 ia io (fRun (X n) n T Tryz.f129 ia io)
end F_tags_Sound
end Go.Proofs.YtcpkhpboemfglaaGreatDoor

namespace Go.Proofs.YtcpkhpboemfglaaGreatDoor
open Go Go.Va Go.Proofs
namespace F_ref08_Sound
abbrev ia : List Ai := [.dat (.slice T_api_Tag)]
abbrev io : List (Nat × Oi) := [(2, .dat .bool)]
abbrev R : Type := DOut ia io
noncomputable def X (n : Nat) : Ctx := ⟨⟨tab, [F_ref06_Clean.en n], 0, []⟩, 72, bnOf 0 ia⟩
abbrev g1 : List Si := [.dat 0 (.slice T_api_Tag), .dat 3 (.int .i64)]
abbrev g2 : List Si := [.dat 0 (.slice T_api_Tag), .dat 3 (.int .i64)]
abbrev g3 : List Si := [.dat 0 (.slice T_api_Tag), .dat 3 (.int .i64)]
abbrev g4 : List Si := []
noncomputable def T : CT := (.s .o (.s .o (.s (.s .o (.b (.l g1 (.s .o (.s (.b (.s .o (.r g2 .o))) (.r g3 .o)))))) (.r g4 .o))))
noncomputable def J1 (n : Nat) (m : Nat) : (List (D_api_Tag)) × Int × Unit → Option R := jL (X n) n T (bodyOf Tryz.f53) (endK ia io) g1 [1, 1, 0, 1, 0] [] m
noncomputable def J2 (n m1 : Nat) : (List (D_api_Tag)) × Int × Unit → Option R := jR (X n) n T (bodyOf Tryz.f53) (endK ia io) g2 [1, 1, 0, 1, 0, 0, 1, 0, 0, 1] [m1]
noncomputable def J3 (n m1 : Nat) : (List (D_api_Tag)) × Int × Unit → Option R := jR (X n) n T (bodyOf Tryz.f53) (endK ia io) g3 [1, 1, 0, 1, 0, 0, 1, 1] [m1]
noncomputable def J4 (n : Nat) : Unit → Option R := jR (X n) n T (bodyOf Tryz.f53) (endK ia io) g4 [1, 1, 1] []
noncomputable def f (n : Nat) (l : List (D_api_Tag)) : Option R := fRun (X n) n T Tryz.f53 ia io (l, ())
theorem e0 (n : Nat) (l : List (D_api_Tag)) : f n l =
  bIf ((hide (decide (((l.length : Nat) : Int) > (8 : Int))))) (
    some (false, ())
    ) (
    J1 n n (l, 0, ())
    ) := (hideF_eq _).trans (by kernel_rfl)
theorem e1 (n m : Nat) (l : List (D_api_Tag)) (i : Int) : J1 n (m + 1) (l, i, ()) =
  bIf ((hide (decide (i < ((l.length : Nat) : Int))))) (
    gIf (0 ≤ i ∧ i < ((l.length : Nat) : Int)) (
      bIf ((hide (decide ((((List.getD l i.toNat (Va.dflt T_api_Tag)).1).size : Int) < (1 : Int))))) (
        some (false, ())
        ) (
        gIf (0 ≤ i ∧ i < ((l.length : Nat) : Int)) (
          bIf ((hide (decide ((((List.getD l i.toNat (Va.dflt T_api_Tag)).1).size : Int) > (64 : Int))))) (
            some (false, ())
            ) (
            gIf (0 ≤ i ∧ i < ((l.length : Nat) : Int)) (
              bIf ((hide (decide (((((List.getD l i.toNat (Va.dflt T_api_Tag)).2).1).size : Int) > (64 : Int))))) (
                some (false, ())
                ) (
                gIf (0 ≤ i ∧ i < ((l.length : Nat) : Int)) (
                  bnd (F_ref06_Clean.f n ((List.getD l i.toNat (Va.dflt T_api_Tag)).1)) fun u1 =>
                  bIf ((!u1.1)) (
                    some (false, ())
                    ) (
                    gIf (0 ≤ i ∧ i < ((l.length : Nat) : Int)) (
                      bnd (F_ref06_Clean.f n (((List.getD l i.toNat (Va.dflt T_api_Tag)).2).1)) fun u2 =>
                      bIf ((!u2.1)) (
                        some (false, ())
                        ) (
                        J2 n m (l, i, ())
                        )
                      )
                    )
                  )
                )
              )
            )
          )
        )
      )
    ) (
    J4 n (())
    ) := (hideF_eq _).trans (by kernel_rfl)
theorem e2 (n m1 : Nat) (l : List (D_api_Tag)) (i : Int) : J2 n m1 (l, i, ()) =
  bIf ((hide (decide (i > (0 : Int))))) (
    gIf (0 ≤ i ∧ i < ((l.length : Nat) : Int)) (
      gIf (0 ≤ (IntKind.i64.wrap (i - (1 : Int))) ∧ (IntKind.i64.wrap (i - (1 : Int))) < ((l.length : Nat) : Int)) (
        bIf ((hide (ltS ((List.getD l i.toNat (Va.dflt T_api_Tag)).1) ((List.getD l ((IntKind.i64.wrap (i - (1 : Int))).toNat) (Va.dflt T_api_Tag)).1) || eqS ((List.getD l i.toNat (Va.dflt T_api_Tag)).1) ((List.getD l ((IntKind.i64.wrap (i - (1 : Int))).toNat) (Va.dflt T_api_Tag)).1)))) (
          some (false, ())
          ) (
          J3 n m1 (l, i, ())
          )
        )
      )
    ) (
    J3 n m1 (l, i, ())
    ) := (hideF_eq _).trans (by kernel_rfl)
theorem e3 (n m1 : Nat) (l : List (D_api_Tag)) (i : Int) : J3 n m1 (l, i, ()) =
  J1 n m1 (l, (IntKind.i64.wrap (i + (1 : Int))), ()) := (hideF_eq _).trans (by kernel_rfl)
theorem e4 (n : Nat) : J4 n (()) =
  some (true, ()) := (hideF_eq _).trans (by kernel_rfl)
theorem phi (n : Nat) : ∀ e ∈ (X n).c.Φ, EntryOk Tryz.prog e := allE_cons (mkEntry_ok (F_ref06_Clean.ok n)) (allE_nil)
theorem ok (n : Nat) : FnOk Tryz.prog 53 ia io (fRun (X n) n T Tryz.f53 ia io) := tree_ok mixed tabIs (phi n) Tryz.func53 (by kernel_rfl) rfl
noncomputable def en (n : Nat) : Entry := mkEntry 53 ia io (fRun (X n) n T Tryz.f53 ia io)
end F_ref08_Sound
end Go.Proofs.YtcpkhpboemfglaaGreatDoor

namespace Go.Proofs.YtcpkhpboemfglaaGreatDoor
open Go Go.Va Go.Proofs
namespace F_slices_Equal_Tag
abbrev ia : List Ai := [.dat (.slice T_api_Tag), .dat (.slice T_api_Tag)]
abbrev io : List (Nat × Oi) := [(4, .dat .bool)]
abbrev R : Type := DOut ia io
noncomputable def X (n : Nat) : Ctx := ⟨⟨tab, [], 0, []⟩, 26, bnOf 0 ia⟩
abbrev g1 : List Si := [.dat 0 (.slice T_api_Tag), .dat 1 (.slice T_api_Tag), .dat 12 (.int .i64), .dat 13 (.int .i64)]
abbrev g2 : List Si := []
noncomputable def T : CT := (.s .o (.s .o (.s (.s .o (.b (.l g1 .o))) (.r g2 .o))))
noncomputable def J1 (n : Nat) (m : Nat) : (List (D_api_Tag)) × (List (D_api_Tag)) × Int × Int × Unit → Option R := jL (X n) n T (bodyOf Tryz.f134) (endK ia io) g1 [1, 1, 0, 1, 0] [] m
noncomputable def J2 (n : Nat) : Unit → Option R := jR (X n) n T (bodyOf Tryz.f134) (endK ia io) g2 [1, 1, 1] []
noncomputable def f (n : Nat) (s1 : List (D_api_Tag)) (s2 : List (D_api_Tag)) : Option R := fRun (X n) n T Tryz.f134 ia io (s1, s2, ())
theorem e0 (n : Nat) (s1 : List (D_api_Tag)) (s2 : List (D_api_Tag)) : f n s1 s2 =
  bIf ((hide (((s1.length : Nat) : Int) != ((s2.length : Nat) : Int)))) (
    some (false, ())
    ) (
    J1 n n (s1, s2, ((s1.length : Nat) : Int), 0, ())
    ) := (hideF_eq _).trans (by kernel_rfl)
theorem e1 (n m : Nat) (s1 : List (D_api_Tag)) (s2 : List (D_api_Tag)) (t12 : Int) (t13 : Int) : J1 n (m + 1) (s1, s2, t12, t13, ()) =
  bIf ((hide (decide (t13 < t12)))) (
    gIf (0 ≤ t13 ∧ t13 < ((s1.length : Nat) : Int)) (
      gIf (0 ≤ t13 ∧ t13 < ((s2.length : Nat) : Int)) (
        bIf ((hide (!(eqD T_api_Tag (List.getD s1 t13.toNat (Va.dflt T_api_Tag)) (List.getD s2 t13.toNat (Va.dflt T_api_Tag)))))) (
          some (false, ())
          ) (
          J1 n m (s1, s2, t12, (IntKind.i64.wrap (t13 + (1 : Int))), ())
          )
        )
      )
    ) (
    J2 n (())
    ) := (hideF_eq _).trans (by kernel_rfl)
theorem e2 (n : Nat) : J2 n (()) =
  some (true, ()) := (hideF_eq _).trans (by kernel_rfl)
theorem phi (n : Nat) : ∀ e ∈ (X n).c.Φ, EntryOk Tryz.prog e := allE_nil
theorem ok (n : Nat) : FnOk Tryz.prog 134 ia io (fRun (X n) n T Tryz.f134 ia io) := tree_ok mixed tabIs (phi n) Tryz.func134 (by kernel_rfl) rfl
noncomputable def en (n : Nat) : Entry := mkEntry 134 ia io (fRun (X n) n T Tryz.f134 ia io)
end F_slices_Equal_Tag
end Go.Proofs.YtcpkhpboemfglaaGreatDoor

namespace Go.Proofs.YtcpkhpboemfglaaGreatDoor
open Go Go.Va Go.Proofs
namespace F_tags_Same
abbrev ia : List Ai := [.dat (.slice T_api_Tag), .dat (.slice T_api_Tag)]
abbrev io : List (Nat × Oi) := [(4, .dat .bool)]
abbrev R : Type := DOut ia io
noncomputable def X (n : Nat) : Ctx := ⟨⟨tab, [F_slices_Equal_Tag.en n], 0, []⟩, 8, bnOf 0 ia⟩
noncomputable def T : CT := .o
noncomputable def f (n : Nat) (a : List (D_api_Tag)) (b : List (D_api_Tag)) : Option R := fRun (X n) n T Tryz.f59 ia io (a, b, ())
theorem e0 (n : Nat) (a : List (D_api_Tag)) (b : List (D_api_Tag)) : f n a b =
  bnd (F_slices_Equal_Tag.f n a b) fun u1 =>
  some (u1.1, ()) := (hideF_eq _).trans (by kernel_rfl)
theorem phi (n : Nat) : ∀ e ∈ (X n).c.Φ, EntryOk Tryz.prog e := allE_cons (mkEntry_ok (F_slices_Equal_Tag.ok n)) (allE_nil)
theorem ok (n : Nat) : FnOk Tryz.prog 59 ia io (fRun (X n) n T Tryz.f59 ia io) := tree_ok mixed tabIs (phi n) Tryz.func59 (by kernel_rfl) rfl
noncomputable def en (n : Nat) : Entry := mkEntry 59 ia io (fRun (X n) n T Tryz.f59 ia io)
end F_tags_Same
end Go.Proofs.YtcpkhpboemfglaaGreatDoor

namespace Go.Proofs.YtcpkhpboemfglaaGreatDoor
open Go Go.Va Go.Proofs
namespace F_ref08_Same
abbrev ia : List Ai := [.dat (.slice T_api_Tag), .dat (.slice T_api_Tag)]
abbrev io : List (Nat × Oi) := [(4, .dat .bool)]
abbrev R : Type := DOut ia io
noncomputable def X (n : Nat) : Ctx := ⟨⟨tab, [], 0, []⟩, 41, bnOf 0 ia⟩
abbrev g1 : List Si := [.dat 0 (.slice T_api_Tag), .dat 1 (.slice T_api_Tag), .dat 5 (.int .i64)]
abbrev g2 : List Si := [.dat 0 (.slice T_api_Tag), .dat 1 (.slice T_api_Tag), .dat 5 (.int .i64)]
abbrev g3 : List Si := []
noncomputable def T : CT := (.s .o (.s .o (.s (.s .o (.b (.l g1 (.s .o (.s .o (.r g2 .o)))))) (.r g3 .o))))
noncomputable def J1 (n : Nat) (m : Nat) : (List (D_api_Tag)) × (List (D_api_Tag)) × Int × Unit → Option R := jL (X n) n T (bodyOf Tryz.f62) (endK ia io) g1 [1, 1, 0, 1, 0] [] m
noncomputable def J2 (n m1 : Nat) : (List (D_api_Tag)) × (List (D_api_Tag)) × Int × Unit → Option R := jR (X n) n T (bodyOf Tryz.f62) (endK ia io) g2 [1, 1, 0, 1, 0, 0, 1, 1] [m1]
noncomputable def J3 (n : Nat) : Unit → Option R := jR (X n) n T (bodyOf Tryz.f62) (endK ia io) g3 [1, 1, 1] []
noncomputable def f (n : Nat) (a : List (D_api_Tag)) (b : List (D_api_Tag)) : Option R := fRun (X n) n T Tryz.f62 ia io (a, b, ())
theorem e0 (n : Nat) (a : List (D_api_Tag)) (b : List (D_api_Tag)) : f n a b =
  bIf ((hide (((a.length : Nat) : Int) != ((b.length : Nat) : Int)))) (
    some (false, ())
    ) (
    J1 n n (a, b, 0, ())
    ) := (hideF_eq _).trans (by kernel_rfl)
theorem e1 (n m : Nat) (a : List (D_api_Tag)) (b : List (D_api_Tag)) (i : Int) : J1 n (m + 1) (a, b, i, ()) =
  bIf ((hide (decide (i < ((a.length : Nat) : Int))))) (
    gIf (0 ≤ i ∧ i < ((a.length : Nat) : Int)) (
      gIf (0 ≤ i ∧ i < ((b.length : Nat) : Int)) (
        bIf ((hide (!eqS ((List.getD a i.toNat (Va.dflt T_api_Tag)).1) ((List.getD b i.toNat (Va.dflt T_api_Tag)).1)))) (
          some (false, ())
          ) (
          gIf (0 ≤ i ∧ i < ((a.length : Nat) : Int)) (
            gIf (0 ≤ i ∧ i < ((b.length : Nat) : Int)) (
              bIf ((hide (!eqS (((List.getD a i.toNat (Va.dflt T_api_Tag)).2).1) (((List.getD b i.toNat (Va.dflt T_api_Tag)).2).1)))) (
                some (false, ())
                ) (
                J2 n m (a, b, i, ())
                )
              )
            )
          )
        )
      )
    ) (
    J3 n (())
    ) := (hideF_eq _).trans (by kernel_rfl)
theorem e2 (n m1 : Nat) (a : List (D_api_Tag)) (b : List (D_api_Tag)) (i : Int) : J2 n m1 (a, b, i, ()) =
  J1 n m1 (a, b, (IntKind.i64.wrap (i + (1 : Int))), ()) := (hideF_eq _).trans (by kernel_rfl)
theorem e3 (n : Nat) : J3 n (()) =
  some (true, ()) := (hideF_eq _).trans (by kernel_rfl)
theorem phi (n : Nat) : ∀ e ∈ (X n).c.Φ, EntryOk Tryz.prog e := allE_nil
theorem ok (n : Nat) : FnOk Tryz.prog 62 ia io (fRun (X n) n T Tryz.f62 ia io) := tree_ok mixed tabIs (phi n) Tryz.func62 (by kernel_rfl) rfl
noncomputable def en (n : Nat) : Entry := mkEntry 62 ia io (fRun (X n) n T Tryz.f62 ia io)
end F_ref08_Same
end Go.Proofs.YtcpkhpboemfglaaGreatDoor

namespace Go.Proofs.YtcpkhpboemfglaaGreatDoor
open Go Go.Va Go.Proofs
namespace F_label_Key
abbrev ia : List Ai := [.dat .str]
abbrev io : List (Nat × Oi) := [(2, .dat .bool)]
abbrev R : Type := DOut ia io
noncomputable def X (n : Nat) : Ctx := ⟨⟨tab, [F_label_Clean.en n], 0, []⟩, 14, bnOf 0 ia⟩
noncomputable def T : CT := .o
noncomputable def f (n : Nat) (s_ : ByteArray) : Option R := fRun (X n) n T Tryz.f123 ia io (s_, ())
theorem e0 (n : Nat) (s_ : ByteArray) : f n s_ =
  bIf ((hide (!eqS s_ (⟨#[]⟩ : ByteArray)))) (
    bIf ((hide (decide ((s_.size : Int) ≤ (200 : Int))))) (
      bnd (F_label_Clean.f n s_) fun u1 =>
      some (u1.1, ())
      ) (
      some (false, ())
      )
    ) (
    some (false, ())
    ) := (hideF_eq _).trans (by kernel_rfl)
theorem phi (n : Nat) : ∀ e ∈ (X n).c.Φ, EntryOk Tryz.prog e := allE_cons (mkEntry_ok (F_label_Clean.ok n)) (allE_nil)
theorem ok (n : Nat) : FnOk Tryz.prog 123 ia io (fRun (X n) n T Tryz.f123 ia io) := tree_ok mixed tabIs (phi n) Tryz.func123 (by kernel_rfl) rfl
noncomputable def en (n : Nat) : Entry := mkEntry 123 ia io (fRun (X n) n T Tryz.f123 ia io)
end F_label_Key
end Go.Proofs.YtcpkhpboemfglaaGreatDoor

namespace Go.Proofs.YtcpkhpboemfglaaGreatDoor
open Go Go.Va Go.Proofs
namespace F_object_Good
abbrev ia : List Ai := [.dat T_api_Version]
abbrev io : List (Nat × Oi) := [(2, .dat .bool)]
abbrev R : Type := DOut ia io
noncomputable def X (n : Nat) : Ctx := ⟨⟨tab, [F_when_Clamp.en n, F_mode_Sound.en n, F_tags_Sound.en n], 0, []⟩, 65, bnOf 0 ia⟩
abbrev g1 : List Si := [.ref 1 1 T_api_Version, .box 1 (.d T_api_Version)]
noncomputable def T : CT := (.s .o (.s .o (.r g1 .o)))
noncomputable def J1 (n : Nat) : D_api_Version × Unit → Option R := jR (X n) n T (bodyOf Tryz.f127) (endK ia io) g1 [1, 1] []
noncomputable def f (n : Nat) (v_ : D_api_Version) : Option R := fRun (X n) n T Tryz.f127 ia io (v_, ())
theorem e0 (n : Nat) (v_ : D_api_Version) : f n v_ =
  bIf ((hide (v_.1 == (0 : Int)))) (
    some (false, ())
    ) (
    bnd (F_when_Clamp.f n v_.2.2.2.2.2.1) fun u1 =>
    bIf ((hide (v_.2.2.2.2.2.1 != u1.1))) (
      some (false, ())
      ) (
      J1 n (v_, ())
      )
    ) := (hideF_eq _).trans (by kernel_rfl)
theorem e1 (n : Nat) (v_ : D_api_Version) : J1 n (v_, ()) =
  bIf (v_.2.1) (
    bIf ((hide (v_.2.2.1 == (0 : Int)))) (
      bIf ((hide (v_.2.2.2.1 == (0 : Int)))) (
        bIf ((hide (eqD (.arr 32 (.int .u8)) v_.2.2.2.2.1 ([] ++ List.replicate (32 - ([] : List (Int)).length) 0)))) (
          bIf ((hide (eqD T_api_Lock v_.2.2.2.2.2.2.1 (0, (0, (false, ())))))) (
            some ((hide (((v_.2.2.2.2.2.2.2.1.length : Nat) : Int) == (0 : Int))), ())
            ) (
            some (false, ())
            )
          ) (
          some (false, ())
          )
        ) (
        some (false, ())
        )
      ) (
      some (false, ())
      )
    ) (
    bIf ((hide (decide (v_.2.2.1 ≥ (0 : Int))))) (
      bIf ((hide (decide (v_.2.2.1 ≤ (16384 : Int))))) (
        bIf ((hide (decide (v_.2.2.2.1 > (0 : Int))))) (
          bnd (F_mode_Sound.f n v_.2.2.2.2.2.2.1) fun u1 =>
          bIf (u1.1) (
            bnd (F_tags_Sound.f n v_.2.2.2.2.2.2.2.1) fun u2 =>
            some (u2.1, ())
            ) (
            some (false, ())
            )
          ) (
          some (false, ())
          )
        ) (
        some (false, ())
        )
      ) (
      some (false, ())
      )
    ) := (hideF_eq _).trans (by kernel_rfl)
theorem phi (n : Nat) : ∀ e ∈ (X n).c.Φ, EntryOk Tryz.prog e := allE_cons (mkEntry_ok (F_when_Clamp.ok n)) (allE_cons (mkEntry_ok (F_mode_Sound.ok n)) (allE_cons (mkEntry_ok (F_tags_Sound.ok n)) (allE_nil)))
theorem ok (n : Nat) : FnOk Tryz.prog 127 ia io (fRun (X n) n T Tryz.f127 ia io) := tree_ok mixed tabIs (phi n) Tryz.func127 (by kernel_rfl) rfl
noncomputable def en (n : Nat) : Entry := mkEntry 127 ia io (fRun (X n) n T Tryz.f127 ia io)
end F_object_Good
end Go.Proofs.YtcpkhpboemfglaaGreatDoor

namespace Go.Proofs.YtcpkhpboemfglaaGreatDoor
open Go Go.Va Go.Proofs
namespace F_ref13_Good
abbrev ia : List Ai := [.dat T_api_Version]
abbrev io : List (Nat × Oi) := [(2, .dat .bool)]
abbrev R : Type := DOut ia io
noncomputable def X (n : Nat) : Ctx := ⟨⟨tab, [F_ref05_Clamp.en n, F_ref12_Sound.en n, F_ref08_Sound.en n], 0, []⟩, 82, bnOf 0 ia⟩
abbrev g1 : List Si := [.ref 1 1 T_api_Version, .box 1 (.d T_api_Version)]
abbrev g2 : List Si := [.ref 1 1 T_api_Version, .dat 3 (.int .i64), .box 1 (.d T_api_Version)]
abbrev g3 : List Si := [.ref 1 1 T_api_Version, .box 1 (.d T_api_Version)]
noncomputable def T : CT := (.s .o (.s .o (.r g1 (.s .o (.s (.s .o (.b (.l g2 .o))) (.r g3 .o))))))
noncomputable def J1 (n : Nat) : D_api_Version × Unit → Option R := jR (X n) n T (bodyOf Tryz.f50) (endK ia io) g1 [1, 1] []
noncomputable def J2 (n : Nat) (m : Nat) : Int × D_api_Version × Unit → Option R := jL (X n) n T (bodyOf Tryz.f50) (endK ia io) g2 [1, 1, 1, 0, 1, 0] [] m
noncomputable def J3 (n : Nat) : D_api_Version × Unit → Option R := jR (X n) n T (bodyOf Tryz.f50) (endK ia io) g3 [1, 1, 1, 1] []
noncomputable def f (n : Nat) (v_ : D_api_Version) : Option R := fRun (X n) n T Tryz.f50 ia io (v_, ())
theorem e0 (n : Nat) (v_ : D_api_Version) : f n v_ =
  bIf ((hide (decide (v_.1 < (1 : Int))))) (
    some (false, ())
    ) (
    bnd (F_ref05_Clamp.f n v_.2.2.2.2.2.1) fun u1 =>
    bIf ((hide (u1.1 != v_.2.2.2.2.2.1))) (
      some (false, ())
      ) (
      J1 n (v_, ())
      )
    ) := (hideF_eq _).trans (by kernel_rfl)
theorem e1 (n : Nat) (v_ : D_api_Version) : J1 n (v_, ()) =
  bIf ((!v_.2.1)) (
    bIf ((hide (decide (v_.2.2.1 ≥ (0 : Int))))) (
      bIf ((hide (decide (v_.2.2.1 ≤ (16384 : Int))))) (
        bIf ((hide (decide (v_.2.2.2.1 ≥ (1 : Int))))) (
          bnd (F_ref12_Sound.f n v_.2.2.2.2.2.2.1) fun u1 =>
          bIf (u1.1) (
            bnd (F_ref08_Sound.f n v_.2.2.2.2.2.2.2.1) fun u2 =>
            some (u2.1, ())
            ) (
            some (false, ())
            )
          ) (
          some (false, ())
          )
        ) (
        some (false, ())
        )
      ) (
      some (false, ())
      )
    ) (
    J2 n n (0, v_, ())
    ) := (hideF_eq _).trans (by kernel_rfl)
theorem e2 (n m : Nat) (i : Int) (v_ : D_api_Version) : J2 n (m + 1) (i, v_, ()) =
  bIf ((hide (decide (i < (32 : Int))))) (
    gIf (0 ≤ i ∧ i < ((32 : Nat) : Int)) (
      bIf ((hide ((List.getD v_.2.2.2.2.1 i.toNat 0) != (0 : Int)))) (
        some (false, ())
        ) (
        J2 n m ((IntKind.i64.wrap (i + (1 : Int))), v_, ())
        )
      )
    ) (
    J3 n (v_, ())
    ) := (hideF_eq _).trans (by kernel_rfl)
theorem e3 (n : Nat) (v_ : D_api_Version) : J3 n (v_, ()) =
  bIf ((hide (v_.2.2.1 == (0 : Int)))) (
    bIf ((hide (v_.2.2.2.1 == (0 : Int)))) (
      bIf ((hide (v_.2.2.2.2.2.2.1.1 == (0 : Int)))) (
        bIf ((hide (v_.2.2.2.2.2.2.1.2.1 == (0 : Int)))) (
          bIf ((!v_.2.2.2.2.2.2.1.2.2.1)) (
            some ((hide (((v_.2.2.2.2.2.2.2.1.length : Nat) : Int) == (0 : Int))), ())
            ) (
            some (false, ())
            )
          ) (
          some (false, ())
          )
        ) (
        some (false, ())
        )
      ) (
      some (false, ())
      )
    ) (
    some (false, ())
    ) := (hideF_eq _).trans (by kernel_rfl)
theorem phi (n : Nat) : ∀ e ∈ (X n).c.Φ, EntryOk Tryz.prog e := allE_cons (mkEntry_ok (F_ref05_Clamp.ok n)) (allE_cons (mkEntry_ok (F_ref12_Sound.ok n)) (allE_cons (mkEntry_ok (F_ref08_Sound.ok n)) (allE_nil)))
theorem ok (n : Nat) : FnOk Tryz.prog 50 ia io (fRun (X n) n T Tryz.f50 ia io) := tree_ok mixed tabIs (phi n) Tryz.func50 (by kernel_rfl) rfl
noncomputable def en (n : Nat) : Entry := mkEntry 50 ia io (fRun (X n) n T Tryz.f50 ia io)
end F_ref13_Good
end Go.Proofs.YtcpkhpboemfglaaGreatDoor

namespace Go.Proofs.YtcpkhpboemfglaaGreatDoor
open Go Go.Va Go.Proofs
namespace F_object_SameVersion
abbrev ia : List Ai := [.dat T_api_Version, .dat T_api_Version]
abbrev io : List (Nat × Oi) := [(4, .dat .bool)]
abbrev R : Type := DOut ia io
noncomputable def X (n : Nat) : Ctx := ⟨⟨tab, [F_tags_Same.en n], 0, []⟩, 61, bnOf 0 ia⟩
noncomputable def T : CT := .o
noncomputable def f (n : Nat) (a : D_api_Version) (b : D_api_Version) : Option R := fRun (X n) n T Tryz.f58 ia io (a, b, ())
theorem e0 (n : Nat) (a : D_api_Version) (b : D_api_Version) : f n a b =
  bnd (F_tags_Same.f n a.2.2.2.2.2.2.2.1 b.2.2.2.2.2.2.2.1) fun u1 =>
  bIf (u1.1) (
    bIf ((hide (a.1 == b.1))) (
      bIf ((hide (a.2.1 == b.2.1))) (
        bIf ((hide (a.2.2.1 == b.2.2.1))) (
          bIf ((hide (a.2.2.2.1 == b.2.2.2.1))) (
            bIf ((hide (eqD (.arr 32 (.int .u8)) a.2.2.2.2.1 b.2.2.2.2.1))) (
              bIf ((hide (a.2.2.2.2.2.1 == b.2.2.2.2.2.1))) (
                some ((hide (eqD T_api_Lock a.2.2.2.2.2.2.1 b.2.2.2.2.2.2.1)), ())
                ) (
                some (false, ())
                )
              ) (
              some (false, ())
              )
            ) (
            some (false, ())
            )
          ) (
          some (false, ())
          )
        ) (
        some (false, ())
        )
      ) (
      some (false, ())
      )
    ) (
    some (false, ())
    ) := (hideF_eq _).trans (by kernel_rfl)
theorem phi (n : Nat) : ∀ e ∈ (X n).c.Φ, EntryOk Tryz.prog e := allE_cons (mkEntry_ok (F_tags_Same.ok n)) (allE_nil)
theorem ok (n : Nat) : FnOk Tryz.prog 58 ia io (fRun (X n) n T Tryz.f58 ia io) := tree_ok mixed tabIs (phi n) Tryz.func58 (by kernel_rfl) rfl
noncomputable def en (n : Nat) : Entry := mkEntry 58 ia io (fRun (X n) n T Tryz.f58 ia io)
end F_object_SameVersion
end Go.Proofs.YtcpkhpboemfglaaGreatDoor

namespace Go.Proofs.YtcpkhpboemfglaaGreatDoor
open Go Go.Va Go.Proofs
namespace F_ref13_SameVersion
abbrev ia : List Ai := [.dat T_api_Version, .dat T_api_Version]
abbrev io : List (Nat × Oi) := [(4, .dat .bool)]
abbrev R : Type := DOut ia io
noncomputable def X (n : Nat) : Ctx := ⟨⟨tab, [F_ref08_Same.en n], 0, []⟩, 57, bnOf 0 ia⟩
abbrev g1 : List Si := [.ref 2 2 T_api_Version, .ref 3 3 T_api_Version, .box 2 (.d T_api_Version), .box 3 (.d T_api_Version)]
noncomputable def T : CT := (.s .o (.s .o (.r g1 .o)))
noncomputable def J1 (n : Nat) : D_api_Version × D_api_Version × Unit → Option R := jR (X n) n T (bodyOf Tryz.f51) (endK ia io) g1 [1, 1] []
noncomputable def f (n : Nat) (a : D_api_Version) (b : D_api_Version) : Option R := fRun (X n) n T Tryz.f51 ia io (a, b, ())
theorem e0 (n : Nat) (a : D_api_Version) (b : D_api_Version) : f n a b =
  bIf ((hide (a.1 != b.1))) (
    some (false, ())
    ) (
    bIf ((hide (!(a.2.1 == b.2.1)))) (
      some (false, ())
      ) (
      bIf ((hide (a.2.2.1 != b.2.2.1))) (
        some (false, ())
        ) (
        bIf ((hide (a.2.2.2.1 != b.2.2.2.1))) (
          some (false, ())
          ) (
          bIf ((hide (a.2.2.2.2.2.1 != b.2.2.2.2.2.1))) (
            some (false, ())
            ) (
            bIf ((hide (!(eqD T_api_Lock a.2.2.2.2.2.2.1 b.2.2.2.2.2.2.1)))) (
              some (false, ())
              ) (
              J1 n (a, b, ())
              )
            )
          )
        )
      )
    ) := (hideF_eq _).trans (by kernel_rfl)
theorem e1 (n : Nat) (a : D_api_Version) (b : D_api_Version) : J1 n (a, b, ()) =
  bIf ((hide (eqD (.arr 32 (.int .u8)) a.2.2.2.2.1 b.2.2.2.2.1))) (
    bnd (F_ref08_Same.f n a.2.2.2.2.2.2.2.1 b.2.2.2.2.2.2.2.1) fun u1 =>
    some (u1.1, ())
    ) (
    some (false, ())
    ) := (hideF_eq _).trans (by kernel_rfl)
theorem phi (n : Nat) : ∀ e ∈ (X n).c.Φ, EntryOk Tryz.prog e := allE_cons (mkEntry_ok (F_ref08_Same.ok n)) (allE_nil)
theorem ok (n : Nat) : FnOk Tryz.prog 51 ia io (fRun (X n) n T Tryz.f51 ia io) := tree_ok mixed tabIs (phi n) Tryz.func51 (by kernel_rfl) rfl
noncomputable def en (n : Nat) : Entry := mkEntry 51 ia io (fRun (X n) n T Tryz.f51 ia io)
end F_ref13_SameVersion
end Go.Proofs.YtcpkhpboemfglaaGreatDoor

namespace Go.Proofs.YtcpkhpboemfglaaGreatDoor
open Go Go.Va Go.Proofs
namespace F_mode_Good
abbrev ia : List Ai := [.dat T_api_Default]
abbrev io : List (Nat × Oi) := [(2, .dat .bool)]
abbrev R : Type := DOut ia io
noncomputable def X (n : Nat) : Ctx := ⟨⟨tab, [], 0, []⟩, 21, bnOf 0 ia⟩
abbrev g1 : List Si := [.ref 1 1 T_api_Default, .dat 10 .bool, .box 1 (.d T_api_Default)]
noncomputable def T : CT := (.s .o (.s (.s .o (.b (.s .o (.c .o (.s .o (.r g1 .o)))))) .o))
noncomputable def J1 (n : Nat) : Bool × D_api_Default × Unit → Option R := jR (X n) n T (bodyOf Tryz.f124) (endK ia io) g1 [1, 0, 1, 0, 1, 1, 1] []
noncomputable def f (n : Nat) (d : D_api_Default) : Option R := fRun (X n) n T Tryz.f124 ia io (d, ())
theorem e0 (n : Nat) (d : D_api_Default) : f n d =
  bIf ((hide (d.1 == (0 : Int)))) (
    some ((hide (d.2.1 == (0 : Int))), ())
    ) (
    bIf ((hide (d.1 == (1 : Int)))) (
      J1 n (true, d, ())
      ) (
      J1 n ((hide (d.1 == (2 : Int))), d, ())
      )
    ) := (hideF_eq _).trans (by kernel_rfl)
theorem e1 (n : Nat) (t10 : Bool) (d : D_api_Default) : J1 n (t10, d, ()) =
  bIf (t10) (
    bIf ((hide (decide (d.2.1 ≥ (1 : Int))))) (
      some ((hide (decide (d.2.1 ≤ (36500 : Int)))), ())
      ) (
      some (false, ())
      )
    ) (
    some (false, ())
    ) := (hideF_eq _).trans (by kernel_rfl)
theorem phi (n : Nat) : ∀ e ∈ (X n).c.Φ, EntryOk Tryz.prog e := allE_nil
theorem ok (n : Nat) : FnOk Tryz.prog 124 ia io (fRun (X n) n T Tryz.f124 ia io) := tree_ok mixed tabIs (phi n) Tryz.func124 (by kernel_rfl) rfl
noncomputable def en (n : Nat) : Entry := mkEntry 124 ia io (fRun (X n) n T Tryz.f124 ia io)
end F_mode_Good
end Go.Proofs.YtcpkhpboemfglaaGreatDoor

namespace Go.Proofs.YtcpkhpboemfglaaGreatDoor
open Go Go.Va Go.Proofs
namespace F_glob_pieces
abbrev ia : List Ai := [.dat .str]
abbrev io : List (Nat × Oi) := [(2, .val (.r 0 T_glob_piece)), (3, .dat .bool)]
abbrev R : Type := DOut ia io
noncomputable def X (n : Nat) : Ctx := ⟨⟨tab, [], 0, []⟩, 46, bnOf 0 ia⟩
abbrev g1 : List Si := [.dat 0 .str, .val 4 (.r 200400 T_glob_piece), .dat 5 (.int .i64)]
abbrev g2 : List Si := [.dat 0 .str, .val 4 (.r 200400 T_glob_piece), .dat 5 (.int .i64)]
abbrev g3 : List Si := [.dat 0 .str, .val 4 (.r 200400 T_glob_piece), .dat 5 (.int .i64)]
abbrev g4 : List Si := [.val 4 (.r 200400 T_glob_piece)]
noncomputable def T : CT := (.s .o (.s .o (.s .o (.s (.s .o (.b (.l g1 (.s .o (.s (.b (.s .o (.b (.s .o (.r g2 .o))))) (.r g3 .o)))))) (.r g4 .o)))))
noncomputable def J1 (n : Nat) (m : Nat) : ByteArray × (List (D_glob_piece)) × Int × Unit → Option R := jL (X n) n T (bodyOf Tryz.f214) (endK ia io) g1 [1, 1, 1, 0, 1, 0] [] m
noncomputable def J2 (n m1 : Nat) : ByteArray × (List (D_glob_piece)) × Int × Unit → Option R := jR (X n) n T (bodyOf Tryz.f214) (endK ia io) g2 [1, 1, 1, 0, 1, 0, 0, 1, 0, 0, 1, 0, 1] [m1]
noncomputable def J3 (n m1 : Nat) : ByteArray × (List (D_glob_piece)) × Int × Unit → Option R := jR (X n) n T (bodyOf Tryz.f214) (endK ia io) g3 [1, 1, 1, 0, 1, 0, 0, 1, 1] [m1]
noncomputable def J4 (n : Nat) : (List (D_glob_piece)) × Unit → Option R := jR (X n) n T (bodyOf Tryz.f214) (endK ia io) g4 [1, 1, 1, 1] []
noncomputable def f (n : Nat) (p : ByteArray) : Option R := fRun (X n) n T Tryz.f214 ia io (p, ())
theorem e0 (n : Nat) (p : ByteArray) : f n p =
  bIf ((hide (decide ((p.size : Int) > (200 : Int))))) (
    some ([], false, ())
    ) (
    J1 n n (p, [], 0, ())
    ) := (hideF_eq _).trans (by kernel_rfl)
theorem e1 (n m : Nat) (p : ByteArray) (out : List (D_glob_piece)) (i : Int) : J1 n (m + 1) (p, out, i, ()) =
  bIf ((hide (decide (i < (p.size : Int))))) (
    gIf (0 ≤ i ∧ i < (p.size : Int)) (
      bIf ((hide ((bt p i) == (42 : Int)))) (
        gIf ((out.length + 1) * 16 ≤ 70368744177664) (
          J3 n m (p, (out ++ ([(2, (0, ()))] : List (D_glob_piece))), i, ())
          )
        ) (
        bIf ((hide ((bt p i) == (63 : Int)))) (
          gIf ((out.length + 1) * 16 ≤ 70368744177664) (
            J3 n m (p, (out ++ ([(1, (0, ()))] : List (D_glob_piece))), i, ())
            )
          ) (
          bIf ((hide ((bt p i) == (92 : Int)))) (
            bIf ((hide ((IntKind.i64.wrap (i + (1 : Int))) == (p.size : Int)))) (
              some ([], false, ())
              ) (
              J2 n m (p, out, (IntKind.i64.wrap (i + (1 : Int))), ())
              )
            ) (
            J2 n m (p, out, i, ())
            )
          )
        )
      )
    ) (
    J4 n (out, ())
    ) := (hideF_eq _).trans (by kernel_rfl)
theorem e2 (n m1 : Nat) (p : ByteArray) (out : List (D_glob_piece)) (i : Int) : J2 n m1 (p, out, i, ()) =
  gIf (0 ≤ i ∧ i < (p.size : Int)) (
    gIf ((out.length + 1) * 16 ≤ 70368744177664) (
      J3 n m1 (p, (out ++ ([(0, ((bt p i), ()))] : List (D_glob_piece))), i, ())
      )
    ) := (hideF_eq _).trans (by kernel_rfl)
theorem e3 (n m1 : Nat) (p : ByteArray) (out : List (D_glob_piece)) (i : Int) : J3 n m1 (p, out, i, ()) =
  J1 n m1 (p, out, (IntKind.i64.wrap (i + (1 : Int))), ()) := (hideF_eq _).trans (by kernel_rfl)
theorem e4 (n : Nat) (out : List (D_glob_piece)) : J4 n (out, ()) =
  some (out, true, ()) := (hideF_eq _).trans (by kernel_rfl)
theorem phi (n : Nat) : ∀ e ∈ (X n).c.Φ, EntryOk Tryz.prog e := allE_nil
theorem ok (n : Nat) : FnOk Tryz.prog 214 ia io (fRun (X n) n T Tryz.f214 ia io) := tree_ok mixed tabIs (phi n) Tryz.func214 (by kernel_rfl) rfl
noncomputable def en (n : Nat) : Entry := mkEntry 214 ia io (fRun (X n) n T Tryz.f214 ia io)
end F_glob_pieces
end Go.Proofs.YtcpkhpboemfglaaGreatDoor

namespace Go.Proofs.YtcpkhpboemfglaaGreatDoor
open Go Go.Va Go.Proofs
namespace F_glob_Sound
abbrev ia : List Ai := [.dat .str]
abbrev io : List (Nat × Oi) := [(2, .dat .bool)]
abbrev R : Type := DOut ia io
noncomputable def X (n : Nat) : Ctx := ⟨⟨tab, [F_glob_pieces.en n], 0, []⟩, 11, bnOf 0 ia⟩
noncomputable def T : CT := .o
noncomputable def f (n : Nat) (p : ByteArray) : Option R := fRun (X n) n T Tryz.f182 ia io (p, ())
theorem e0 (n : Nat) (p : ByteArray) : f n p =
  bnd (F_glob_pieces.f n p) fun u1 =>
  some (u1.2.1, ()) := (hideF_eq _).trans (by kernel_rfl)
theorem phi (n : Nat) : ∀ e ∈ (X n).c.Φ, EntryOk Tryz.prog e := allE_cons (mkEntry_ok (F_glob_pieces.ok n)) (allE_nil)
theorem ok (n : Nat) : FnOk Tryz.prog 182 ia io (fRun (X n) n T Tryz.f182 ia io) := tree_ok mixed tabIs (phi n) Tryz.func182 (by kernel_rfl) rfl
noncomputable def en (n : Nat) : Entry := mkEntry 182 ia io (fRun (X n) n T Tryz.f182 ia io)
end F_glob_Sound
end Go.Proofs.YtcpkhpboemfglaaGreatDoor

namespace Go.Proofs.YtcpkhpboemfglaaGreatDoor
open Go Go.Va Go.Proofs
namespace F_entry_Rule
abbrev ia : List Ai := [.dat T_api_Rule]
abbrev io : List (Nat × Oi) := [(2, .dat .bool)]
abbrev R : Type := DOut ia io
noncomputable def X (n : Nat) : Ctx := ⟨⟨tab, [F_tags_Sound.en n, F_label_Clean.en n], 0, []⟩, 37, bnOf 0 ia⟩
noncomputable def T : CT := .o
noncomputable def f (n : Nat) (r : D_api_Rule) : Option R := fRun (X n) n T Tryz.f179 ia io (r, ())
theorem e0 (n : Nat) (r : D_api_Rule) : f n r =
  bIf ((hide (decide ((r.1.size : Int) ≤ (200 : Int))))) (
    bnd (F_label_Clean.f n r.1) fun u1 =>
    bIf (u1.1) (
      bnd (F_tags_Sound.f n r.2.1) fun u2 =>
      bIf (u2.1) (
        bIf ((hide (decide (r.2.2.1 ≥ (0 : Int))))) (
          bIf ((hide (decide (r.2.2.1 ≤ (36500 : Int))))) (
            bIf ((hide (decide (r.2.2.2.1 ≥ (0 : Int))))) (
              some ((hide (decide (r.2.2.2.1 ≤ (36500 : Int)))), ())
              ) (
              some (false, ())
              )
            ) (
            some (false, ())
            )
          ) (
          some (false, ())
          )
        ) (
        some (false, ())
        )
      ) (
      some (false, ())
      )
    ) (
    some (false, ())
    ) := (hideF_eq _).trans (by kernel_rfl)
theorem phi (n : Nat) : ∀ e ∈ (X n).c.Φ, EntryOk Tryz.prog e := allE_cons (mkEntry_ok (F_tags_Sound.ok n)) (allE_cons (mkEntry_ok (F_label_Clean.ok n)) (allE_nil))
theorem ok (n : Nat) : FnOk Tryz.prog 179 ia io (fRun (X n) n T Tryz.f179 ia io) := tree_ok mixed tabIs (phi n) Tryz.func179 (by kernel_rfl) rfl
noncomputable def en (n : Nat) : Entry := mkEntry 179 ia io (fRun (X n) n T Tryz.f179 ia io)
end F_entry_Rule
end Go.Proofs.YtcpkhpboemfglaaGreatDoor

namespace Go.Proofs.YtcpkhpboemfglaaGreatDoor
open Go Go.Va Go.Proofs
namespace F_entry_Rules_1
abbrev ia : List Ai := [.dat T_api_Rule]
abbrev io : List (Nat × Oi) := [(2, .dat .bool)]
abbrev R : Type := DOut ia io
noncomputable def X (n : Nat) : Ctx := ⟨⟨tab, [F_entry_Rule.en n], 0, []⟩, 6, bnOf 0 ia⟩
noncomputable def T : CT := .o
noncomputable def f (n : Nat) (r : D_api_Rule) : Option R := fRun (X n) n T Tryz.f178 ia io (r, ())
theorem e0 (n : Nat) (r : D_api_Rule) : f n r =
  bnd (F_entry_Rule.f n r) fun u1 =>
  some ((!u1.1), ()) := (hideF_eq _).trans (by kernel_rfl)
theorem phi (n : Nat) : ∀ e ∈ (X n).c.Φ, EntryOk Tryz.prog e := allE_cons (mkEntry_ok (F_entry_Rule.ok n)) (allE_nil)
theorem ok (n : Nat) : FnOk Tryz.prog 178 ia io (fRun (X n) n T Tryz.f178 ia io) := tree_ok mixed tabIs (phi n) Tryz.func178 (by kernel_rfl) rfl
noncomputable def en (n : Nat) : Entry := mkEntry 178 ia io (fRun (X n) n T Tryz.f178 ia io)
end F_entry_Rules_1
end Go.Proofs.YtcpkhpboemfglaaGreatDoor

namespace Go.Proofs.YtcpkhpboemfglaaGreatDoor
open Go Go.Va Go.Proofs
namespace F_slices_IndexFunc_Rule
abbrev ia : List Ai := [.dat (.slice T_api_Rule), .fn (.fn 178) []]
abbrev io : List (Nat × Oi) := [(4, .dat (.int .i64))]
abbrev R : Type := DOut ia io
noncomputable def X (n : Nat) : Ctx := ⟨⟨tab, [F_entry_Rules_1.en n], 0, []⟩, 19, bnOf 0 ia⟩
abbrev g1 : List Si := [.dat 0 (.slice T_api_Rule), .clo 1 (.fn 178) [], .dat 7 (.int .i64), .dat 8 (.int .i64)]
abbrev g2 : List Si := []
noncomputable def T : CT := (.s .o (.s (.s .o (.b (.l g1 .o))) (.r g2 .o)))
noncomputable def J1 (n : Nat) (m : Nat) : (List (D_api_Rule)) × Int × Int × Unit → Option R := jL (X n) n T (bodyOf Tryz.f212) (endK ia io) g1 [1, 0, 1, 0] [] m
noncomputable def J2 (n : Nat) : Unit → Option R := jR (X n) n T (bodyOf Tryz.f212) (endK ia io) g2 [1, 1] []
noncomputable def f (n : Nat) (s_ : List (D_api_Rule)) : Option R := fRun (X n) n T Tryz.f212 ia io (s_, ())
theorem e0 (n : Nat) (s_ : List (D_api_Rule)) : f n s_ =
  J1 n n (s_, ((s_.length : Nat) : Int), 0, ()) := (hideF_eq _).trans (by kernel_rfl)
theorem e1 (n m : Nat) (s_ : List (D_api_Rule)) (t7 : Int) (t8 : Int) : J1 n (m + 1) (s_, t7, t8, ()) =
  bIf ((hide (decide (t8 < t7)))) (
    gIf (0 ≤ t8 ∧ t8 < ((s_.length : Nat) : Int)) (
      bnd (F_entry_Rules_1.f n (List.getD s_ t8.toNat (Va.dflt T_api_Rule))) fun u1 =>
      bIf (u1.1) (
        some (t8, ())
        ) (
        J1 n m (s_, t7, (IntKind.i64.wrap (t8 + (1 : Int))), ())
        )
      )
    ) (
    J2 n (())
    ) := (hideF_eq _).trans (by kernel_rfl)
theorem e2 (n : Nat) : J2 n (()) =
  some ((-1), ()) := (hideF_eq _).trans (by kernel_rfl)
theorem phi (n : Nat) : ∀ e ∈ (X n).c.Φ, EntryOk Tryz.prog e := allE_cons (mkEntry_ok (F_entry_Rules_1.ok n)) (allE_nil)
theorem ok (n : Nat) : FnOk Tryz.prog 212 ia io (fRun (X n) n T Tryz.f212 ia io) := tree_ok mixed tabIs (phi n) Tryz.func212 (by kernel_rfl) rfl
noncomputable def en (n : Nat) : Entry := mkEntry 212 ia io (fRun (X n) n T Tryz.f212 ia io)
end F_slices_IndexFunc_Rule
end Go.Proofs.YtcpkhpboemfglaaGreatDoor

namespace Go.Proofs.YtcpkhpboemfglaaGreatDoor
open Go Go.Va Go.Proofs
namespace F_slices_ContainsFunc_Rule
abbrev ia : List Ai := [.dat (.slice T_api_Rule), .fn (.fn 178) []]
abbrev io : List (Nat × Oi) := [(4, .dat .bool)]
abbrev R : Type := DOut ia io
noncomputable def X (n : Nat) : Ctx := ⟨⟨tab, [F_slices_IndexFunc_Rule.en n], 0, []⟩, 9, bnOf 0 ia⟩
noncomputable def T : CT := .o
noncomputable def f (n : Nat) (s_ : List (D_api_Rule)) : Option R := fRun (X n) n T Tryz.f177 ia io (s_, ())
theorem e0 (n : Nat) (s_ : List (D_api_Rule)) : f n s_ =
  bnd (F_slices_IndexFunc_Rule.f n s_) fun u1 =>
  some ((hide (decide (u1.1 ≥ (0 : Int)))), ()) := (hideF_eq _).trans (by kernel_rfl)
theorem phi (n : Nat) : ∀ e ∈ (X n).c.Φ, EntryOk Tryz.prog e := allE_cons (mkEntry_ok (F_slices_IndexFunc_Rule.ok n)) (allE_nil)
theorem ok (n : Nat) : FnOk Tryz.prog 177 ia io (fRun (X n) n T Tryz.f177 ia io) := tree_ok mixed tabIs (phi n) Tryz.func177 (by kernel_rfl) rfl
noncomputable def en (n : Nat) : Entry := mkEntry 177 ia io (fRun (X n) n T Tryz.f177 ia io)
end F_slices_ContainsFunc_Rule
end Go.Proofs.YtcpkhpboemfglaaGreatDoor

namespace Go.Proofs.YtcpkhpboemfglaaGreatDoor
open Go Go.Va Go.Proofs
namespace F_entry_Rules
abbrev ia : List Ai := [.dat (.slice T_api_Rule)]
abbrev io : List (Nat × Oi) := [(2, .dat .bool)]
abbrev R : Type := DOut ia io
noncomputable def X (n : Nat) : Ctx := ⟨⟨tab, [F_slices_ContainsFunc_Rule.en n], 0, []⟩, 11, bnOf 0 ia⟩
noncomputable def T : CT := .o
noncomputable def f (n : Nat) (list : List (D_api_Rule)) : Option R := fRun (X n) n T Tryz.f125 ia io (list, ())
theorem e0 (n : Nat) (list : List (D_api_Rule)) : f n list =
  bIf ((hide (decide (((list.length : Nat) : Int) ≤ (8 : Int))))) (
    bnd (F_slices_ContainsFunc_Rule.f n list) fun u1 =>
    some ((!u1.1), ())
    ) (
    some (false, ())
    ) := (hideF_eq _).trans (by kernel_rfl)
theorem phi (n : Nat) : ∀ e ∈ (X n).c.Φ, EntryOk Tryz.prog e := allE_cons (mkEntry_ok (F_slices_ContainsFunc_Rule.ok n)) (allE_nil)
theorem ok (n : Nat) : FnOk Tryz.prog 125 ia io (fRun (X n) n T Tryz.f125 ia io) := tree_ok mixed tabIs (phi n) Tryz.func125 (by kernel_rfl) rfl
noncomputable def en (n : Nat) : Entry := mkEntry 125 ia io (fRun (X n) n T Tryz.f125 ia io)
end F_entry_Rules
end Go.Proofs.YtcpkhpboemfglaaGreatDoor

namespace Go.Proofs.YtcpkhpboemfglaaGreatDoor
open Go Go.Va Go.Proofs
namespace F_entry_Grants_1
abbrev ia : List Ai := [.dat T_api_Grant]
abbrev io : List (Nat × Oi) := [(2, .dat .bool)]
abbrev R : Type := DOut ia io
noncomputable def X (n : Nat) : Ctx := ⟨⟨tab, [F_glob_Sound.en n], 0, []⟩, 19, bnOf 0 ia⟩
noncomputable def T : CT := .o
noncomputable def f (n : Nat) (g : D_api_Grant) : Option R := fRun (X n) n T Tryz.f181 ia io (g, ())
theorem e0 (n : Nat) (g : D_api_Grant) : f n g =
  bnd (F_glob_Sound.f n g.2.1) fun u1 =>
  bIf ((!u1.1)) (
    some (true, ())
    ) (
    bnd (F_glob_Sound.f n g.2.2.1) fun u2 =>
    bIf ((!u2.1)) (
      some (true, ())
      ) (
      bnd (F_glob_Sound.f n g.2.2.2.1) fun u3 =>
      some ((!u3.1), ())
      )
    ) := (hideF_eq _).trans (by kernel_rfl)
theorem phi (n : Nat) : ∀ e ∈ (X n).c.Φ, EntryOk Tryz.prog e := allE_cons (mkEntry_ok (F_glob_Sound.ok n)) (allE_nil)
theorem ok (n : Nat) : FnOk Tryz.prog 181 ia io (fRun (X n) n T Tryz.f181 ia io) := tree_ok mixed tabIs (phi n) Tryz.func181 (by kernel_rfl) rfl
noncomputable def en (n : Nat) : Entry := mkEntry 181 ia io (fRun (X n) n T Tryz.f181 ia io)
end F_entry_Grants_1
end Go.Proofs.YtcpkhpboemfglaaGreatDoor

namespace Go.Proofs.YtcpkhpboemfglaaGreatDoor
open Go Go.Va Go.Proofs
namespace F_slices_IndexFunc_Grant
abbrev ia : List Ai := [.dat (.slice T_api_Grant), .fn (.fn 181) []]
abbrev io : List (Nat × Oi) := [(4, .dat (.int .i64))]
abbrev R : Type := DOut ia io
noncomputable def X (n : Nat) : Ctx := ⟨⟨tab, [F_entry_Grants_1.en n], 0, []⟩, 19, bnOf 0 ia⟩
abbrev g1 : List Si := [.dat 0 (.slice T_api_Grant), .clo 1 (.fn 181) [], .dat 7 (.int .i64), .dat 8 (.int .i64)]
abbrev g2 : List Si := []
noncomputable def T : CT := (.s .o (.s (.s .o (.b (.l g1 .o))) (.r g2 .o)))
noncomputable def J1 (n : Nat) (m : Nat) : (List (D_api_Grant)) × Int × Int × Unit → Option R := jL (X n) n T (bodyOf Tryz.f213) (endK ia io) g1 [1, 0, 1, 0] [] m
noncomputable def J2 (n : Nat) : Unit → Option R := jR (X n) n T (bodyOf Tryz.f213) (endK ia io) g2 [1, 1] []
noncomputable def f (n : Nat) (s_ : List (D_api_Grant)) : Option R := fRun (X n) n T Tryz.f213 ia io (s_, ())
theorem e0 (n : Nat) (s_ : List (D_api_Grant)) : f n s_ =
  J1 n n (s_, ((s_.length : Nat) : Int), 0, ()) := (hideF_eq _).trans (by kernel_rfl)
theorem e1 (n m : Nat) (s_ : List (D_api_Grant)) (t7 : Int) (t8 : Int) : J1 n (m + 1) (s_, t7, t8, ()) =
  bIf ((hide (decide (t8 < t7)))) (
    gIf (0 ≤ t8 ∧ t8 < ((s_.length : Nat) : Int)) (
      bnd (F_entry_Grants_1.f n (List.getD s_ t8.toNat (Va.dflt T_api_Grant))) fun u1 =>
      bIf (u1.1) (
        some (t8, ())
        ) (
        J1 n m (s_, t7, (IntKind.i64.wrap (t8 + (1 : Int))), ())
        )
      )
    ) (
    J2 n (())
    ) := (hideF_eq _).trans (by kernel_rfl)
theorem e2 (n : Nat) : J2 n (()) =
  some ((-1), ()) := (hideF_eq _).trans (by kernel_rfl)
theorem phi (n : Nat) : ∀ e ∈ (X n).c.Φ, EntryOk Tryz.prog e := allE_cons (mkEntry_ok (F_entry_Grants_1.ok n)) (allE_nil)
theorem ok (n : Nat) : FnOk Tryz.prog 213 ia io (fRun (X n) n T Tryz.f213 ia io) := tree_ok mixed tabIs (phi n) Tryz.func213 (by kernel_rfl) rfl
noncomputable def en (n : Nat) : Entry := mkEntry 213 ia io (fRun (X n) n T Tryz.f213 ia io)
end F_slices_IndexFunc_Grant
end Go.Proofs.YtcpkhpboemfglaaGreatDoor

namespace Go.Proofs.YtcpkhpboemfglaaGreatDoor
open Go Go.Va Go.Proofs
namespace F_slices_ContainsFunc_Grant
abbrev ia : List Ai := [.dat (.slice T_api_Grant), .fn (.fn 181) []]
abbrev io : List (Nat × Oi) := [(4, .dat .bool)]
abbrev R : Type := DOut ia io
noncomputable def X (n : Nat) : Ctx := ⟨⟨tab, [F_slices_IndexFunc_Grant.en n], 0, []⟩, 9, bnOf 0 ia⟩
noncomputable def T : CT := .o
noncomputable def f (n : Nat) (s_ : List (D_api_Grant)) : Option R := fRun (X n) n T Tryz.f180 ia io (s_, ())
theorem e0 (n : Nat) (s_ : List (D_api_Grant)) : f n s_ =
  bnd (F_slices_IndexFunc_Grant.f n s_) fun u1 =>
  some ((hide (decide (u1.1 ≥ (0 : Int)))), ()) := (hideF_eq _).trans (by kernel_rfl)
theorem phi (n : Nat) : ∀ e ∈ (X n).c.Φ, EntryOk Tryz.prog e := allE_cons (mkEntry_ok (F_slices_IndexFunc_Grant.ok n)) (allE_nil)
theorem ok (n : Nat) : FnOk Tryz.prog 180 ia io (fRun (X n) n T Tryz.f180 ia io) := tree_ok mixed tabIs (phi n) Tryz.func180 (by kernel_rfl) rfl
noncomputable def en (n : Nat) : Entry := mkEntry 180 ia io (fRun (X n) n T Tryz.f180 ia io)
end F_slices_ContainsFunc_Grant
end Go.Proofs.YtcpkhpboemfglaaGreatDoor

namespace Go.Proofs.YtcpkhpboemfglaaGreatDoor
open Go Go.Va Go.Proofs
namespace F_entry_Grants
abbrev ia : List Ai := [.dat (.slice T_api_Grant)]
abbrev io : List (Nat × Oi) := [(2, .dat .bool)]
abbrev R : Type := DOut ia io
noncomputable def X (n : Nat) : Ctx := ⟨⟨tab, [F_slices_ContainsFunc_Grant.en n], 0, []⟩, 11, bnOf 0 ia⟩
noncomputable def T : CT := .o
noncomputable def f (n : Nat) (list : List (D_api_Grant)) : Option R := fRun (X n) n T Tryz.f126 ia io (list, ())
theorem e0 (n : Nat) (list : List (D_api_Grant)) : f n list =
  bIf ((hide (decide (((list.length : Nat) : Int) ≤ (8 : Int))))) (
    bnd (F_slices_ContainsFunc_Grant.f n list) fun u1 =>
    some ((!u1.1), ())
    ) (
    some (false, ())
    ) := (hideF_eq _).trans (by kernel_rfl)
theorem phi (n : Nat) : ∀ e ∈ (X n).c.Φ, EntryOk Tryz.prog e := allE_cons (mkEntry_ok (F_slices_ContainsFunc_Grant.ok n)) (allE_nil)
theorem ok (n : Nat) : FnOk Tryz.prog 126 ia io (fRun (X n) n T Tryz.f126 ia io) := tree_ok mixed tabIs (phi n) Tryz.func126 (by kernel_rfl) rfl
noncomputable def en (n : Nat) : Entry := mkEntry 126 ia io (fRun (X n) n T Tryz.f126 ia io)
end F_entry_Grants
end Go.Proofs.YtcpkhpboemfglaaGreatDoor

namespace Go.Proofs.YtcpkhpboemfglaaGreatDoor
open Go Go.Va Go.Proofs
namespace F_label_address
abbrev ia : List Ai := [.dat .str]
abbrev io : List (Nat × Oi) := [(2, .dat .bool)]
abbrev R : Type := DOut ia io
noncomputable def X (n : Nat) : Ctx := ⟨⟨tab, [F_strings_Split.en, F_strings_Trim.en], 0, []⟩, 30, bnOf 0 ia⟩
abbrev g1 : List Si := [.val 11 (.r 201100 .str), .dat 12 (.int .i64), .dat 13 (.int .i64)]
abbrev g2 : List Si := []
noncomputable def T : CT := (.s .o (.s .o (.s .o (.s (.s .o (.b (.l g1 .o))) (.r g2 .o)))))
noncomputable def J1 (n : Nat) (m : Nat) : (List (ByteArray)) × Int × Int × Unit → Option R := jL (X n) n T (bodyOf Tryz.f120) (endK ia io) g1 [1, 1, 1, 0, 1, 0] [] m
noncomputable def J2 (n : Nat) : Unit → Option R := jR (X n) n T (bodyOf Tryz.f120) (endK ia io) g2 [1, 1, 1, 1] []
noncomputable def f (n : Nat) (s_ : ByteArray) : Option R := fRun (X n) n T Tryz.f120 ia io (s_, ())
theorem e0 (n : Nat) (s_ : ByteArray) : f n s_ =
  bnd (F_strings_Split.f s_ (⟨#[46]⟩ : ByteArray)) fun u1 =>
  bIf ((hide (((u1.1.length : Nat) : Int) != (4 : Int)))) (
    some (false, ())
    ) (
    J1 n n (u1.1, ((u1.1.length : Nat) : Int), 0, ())
    ) := (hideF_eq _).trans (by kernel_rfl)
theorem e1 (n m : Nat) (t11 : List (ByteArray)) (t12 : Int) (t13 : Int) : J1 n (m + 1) (t11, t12, t13, ()) =
  bIf ((hide (decide (t13 < t12)))) (
    gIf (0 ≤ t13 ∧ t13 < ((t11.length : Nat) : Int)) (
      bIf ((hide (eqS (List.getD t11 (0 + t13.toNat) (⟨#[]⟩ : ByteArray)) (⟨#[]⟩ : ByteArray)))) (
        some (false, ())
        ) (
        bIf ((hide (decide (((List.getD t11 (0 + t13.toNat) (⟨#[]⟩ : ByteArray)).size : Int) > (3 : Int))))) (
          some (false, ())
          ) (
          bnd (F_strings_Trim.f (List.getD t11 (0 + t13.toNat) (⟨#[]⟩ : ByteArray)) (⟨#[48, 49, 50, 51, 52, 53, 54, 55, 56, 57]⟩ : ByteArray)) fun u1 =>
          bIf ((hide (!eqS u1.1 (⟨#[]⟩ : ByteArray)))) (
            some (false, ())
            ) (
            J1 n m (t11, t12, (IntKind.i64.wrap (t13 + (1 : Int))), ())
            )
          )
        )
      )
    ) (
    J2 n (())
    ) := (hideF_eq _).trans (by kernel_rfl)
theorem e2 (n : Nat) : J2 n (()) =
  some (true, ()) := (hideF_eq _).trans (by kernel_rfl)
theorem phi (n : Nat) : ∀ e ∈ (X n).c.Φ, EntryOk Tryz.prog e := allE_cons (mkEntry_ok (F_strings_Split.ok)) (allE_cons (mkEntry_ok (F_strings_Trim.ok)) (allE_nil))
theorem ok (n : Nat) : FnOk Tryz.prog 120 ia io (fRun (X n) n T Tryz.f120 ia io) := tree_ok mixed tabIs (phi n) Tryz.func120 (by kernel_rfl) rfl
noncomputable def en (n : Nat) : Entry := mkEntry 120 ia io (fRun (X n) n T Tryz.f120 ia io)
end F_label_address
end Go.Proofs.YtcpkhpboemfglaaGreatDoor

namespace Go.Proofs.YtcpkhpboemfglaaGreatDoor
open Go Go.Va Go.Proofs
namespace F_label_among
abbrev ia : List Ai := [.dat .str, .dat (.int .u8)]
abbrev io : List (Nat × Oi) := [(4, .dat .bool)]
abbrev R : Type := DOut ia io
noncomputable def X (n : Nat) : Ctx := ⟨⟨tab, [F_strings_IndexByte.en], 0, []⟩, 9, bnOf 0 ia⟩
noncomputable def T : CT := .o
noncomputable def f (n : Nat) (some_ : ByteArray) (b : Int) : Option R := fRun (X n) n T Tryz.f121 ia io (some_, b, ())
theorem e0 (n : Nat) (some_ : ByteArray) (b : Int) : f n some_ b =
  bnd (F_strings_IndexByte.f some_ b) fun u1 =>
  some ((hide (decide (u1.1 ≥ (0 : Int)))), ()) := (hideF_eq _).trans (by kernel_rfl)
theorem phi (n : Nat) : ∀ e ∈ (X n).c.Φ, EntryOk Tryz.prog e := allE_cons (mkEntry_ok (F_strings_IndexByte.ok)) (allE_nil)
theorem ok (n : Nat) : FnOk Tryz.prog 121 ia io (fRun (X n) n T Tryz.f121 ia io) := tree_ok mixed tabIs (phi n) Tryz.func121 (by kernel_rfl) rfl
noncomputable def en (n : Nat) : Entry := mkEntry 121 ia io (fRun (X n) n T Tryz.f121 ia io)
end F_label_among
end Go.Proofs.YtcpkhpboemfglaaGreatDoor

namespace Go.Proofs.YtcpkhpboemfglaaGreatDoor
open Go Go.Va Go.Proofs
namespace F_label_Bucket
abbrev ia : List Ai := [.dat .str]
abbrev io : List (Nat × Oi) := [(2, .dat .bool)]
abbrev R : Type := DOut ia io
noncomputable def X (n : Nat) : Ctx := ⟨⟨tab, [F_label_address.en n, F_label_among.en n], 0, []⟩, 68, bnOf 0 ia⟩
abbrev g1 : List Si := [.dat 0 .str]
abbrev g2 : List Si := [.dat 0 .str, .dat 18 (.int .i64), .dat 19 (.int .i64)]
abbrev g3 : List Si := [.dat 0 .str, .dat 3 (.int .i64), .dat 18 (.int .i64), .dat 19 (.int .i64)]
abbrev g4 : List Si := []
noncomputable def T : CT := (.s .o (.s .o (.r g1 (.s (.s .o (.b (.l g2 (.s .o (.s .o (.s (.b (.s .o (.s .o (.s .o (.r g3 .o))))) .o)))))) (.r g4 .o)))))
noncomputable def J1 (n : Nat) : ByteArray × Unit → Option R := jR (X n) n T (bodyOf Tryz.f43) (endK ia io) g1 [1, 1] []
noncomputable def J2 (n : Nat) (m : Nat) : ByteArray × Int × Int × Unit → Option R := jL (X n) n T (bodyOf Tryz.f43) (endK ia io) g2 [1, 1, 0, 1, 0] [] m
noncomputable def J3 (n m2 : Nat) : ByteArray × Int × Int × Int × Unit → Option R := jR (X n) n T (bodyOf Tryz.f43) (endK ia io) g3 [1, 1, 0, 1, 0, 0, 1, 1, 0, 0, 1, 1, 1] [m2]
noncomputable def J4 (n : Nat) : Unit → Option R := jR (X n) n T (bodyOf Tryz.f43) (endK ia io) g4 [1, 1, 1] []
noncomputable def f (n : Nat) (s_ : ByteArray) : Option R := fRun (X n) n T Tryz.f43 ia io (s_, ())
theorem e0 (n : Nat) (s_ : ByteArray) : f n s_ =
  bIf ((hide (decide ((s_.size : Int) < (3 : Int))))) (
    some (false, ())
    ) (
    bIf ((hide (decide ((s_.size : Int) > (63 : Int))))) (
      some (false, ())
      ) (
      bnd (F_label_address.f n s_) fun u1 =>
      bIf (u1.1) (
        some (false, ())
        ) (
        J1 n (s_, ())
        )
      )
    ) := (hideF_eq _).trans (by kernel_rfl)
theorem e1 (n : Nat) (s_ : ByteArray) : J1 n (s_, ()) =
  J2 n n (s_, (s_.size : Int), 0, ()) := (hideF_eq _).trans (by kernel_rfl)
theorem e2 (n m : Nat) (s_ : ByteArray) (t18 : Int) (t19 : Int) : J2 n (m + 1) (s_, t18, t19, ()) =
  bIf ((hide (decide (t19 < t18)))) (
    gIf (0 ≤ t19 ∧ t19 < (s_.size : Int)) (
      bnd (F_label_among.f n (⟨#[97, 98, 99, 100, 101, 102, 103, 104, 105, 106, 107, 108, 109, 110, 111, 112, 113, 114, 115, 116, 117, 118, 119, 120, 121, 122, 48, 49, 50, 51, 52, 53, 54, 55, 56, 57]⟩ : ByteArray) (bt s_ t19)) fun u1 =>
      bIf (u1.1) (
        J2 n m (s_, t18, (IntKind.i64.wrap (t19 + (1 : Int))), ())
        ) (
        gIf (0 ≤ t19 ∧ t19 < (s_.size : Int)) (
          bIf ((hide ((bt s_ t19) != (45 : Int)))) (
            gIf (0 ≤ t19 ∧ t19 < (s_.size : Int)) (
              bIf ((hide ((bt s_ t19) != (46 : Int)))) (
                some (false, ())
                ) (
                bIf ((hide (t19 == (0 : Int)))) (
                  some (false, ())
                  ) (
                  bIf ((hide (t19 == (IntKind.i64.wrap ((s_.size : Int) - (1 : Int)))))) (
                    some (false, ())
                    ) (
                    J3 n m (s_, t19, t18, t19, ())
                    )
                  )
                )
              )
            ) (
            bIf ((hide (t19 == (0 : Int)))) (
              some (false, ())
              ) (
              bIf ((hide (t19 == (IntKind.i64.wrap ((s_.size : Int) - (1 : Int)))))) (
                some (false, ())
                ) (
                J3 n m (s_, t19, t18, t19, ())
                )
              )
            )
          )
        )
      )
    ) (
    J4 n (())
    ) := (hideF_eq _).trans (by kernel_rfl)
theorem e3 (n m2 : Nat) (s_ : ByteArray) (i : Int) (t18 : Int) (t19 : Int) : J3 n m2 (s_, i, t18, t19, ()) =
  gIf (0 ≤ (IntKind.i64.wrap (i + (1 : Int))) ∧ (IntKind.i64.wrap (i + (1 : Int))) < (s_.size : Int)) (
    bIf ((hide ((bt s_ (IntKind.i64.wrap (i + (1 : Int)))) == (46 : Int)))) (
      gIf (0 ≤ i ∧ i < (s_.size : Int)) (
        bIf ((hide ((bt s_ i) == (46 : Int)))) (
          some (false, ())
          ) (
          bIf ((hide ((bt s_ (IntKind.i64.wrap (i + (1 : Int)))) == (46 : Int)))) (
            some (false, ())
            ) (
            J2 n m2 (s_, t18, (IntKind.i64.wrap (t19 + (1 : Int))), ())
            )
          )
        )
      ) (
      bIf ((hide ((bt s_ (IntKind.i64.wrap (i + (1 : Int)))) == (45 : Int)))) (
        gIf (0 ≤ i ∧ i < (s_.size : Int)) (
          bIf ((hide ((bt s_ i) == (46 : Int)))) (
            some (false, ())
            ) (
            bIf ((hide ((bt s_ (IntKind.i64.wrap (i + (1 : Int)))) == (46 : Int)))) (
              some (false, ())
              ) (
              J2 n m2 (s_, t18, (IntKind.i64.wrap (t19 + (1 : Int))), ())
              )
            )
          )
        ) (
        J2 n m2 (s_, t18, (IntKind.i64.wrap (t19 + (1 : Int))), ())
        )
      )
    ) := (hideF_eq _).trans (by kernel_rfl)
theorem e4 (n : Nat) : J4 n (()) =
  some (true, ()) := (hideF_eq _).trans (by kernel_rfl)
theorem phi (n : Nat) : ∀ e ∈ (X n).c.Φ, EntryOk Tryz.prog e := allE_cons (mkEntry_ok (F_label_address.ok n)) (allE_cons (mkEntry_ok (F_label_among.ok n)) (allE_nil))
theorem ok (n : Nat) : FnOk Tryz.prog 43 ia io (fRun (X n) n T Tryz.f43 ia io) := tree_ok mixed tabIs (phi n) Tryz.func43 (by kernel_rfl) rfl
noncomputable def en (n : Nat) : Entry := mkEntry 43 ia io (fRun (X n) n T Tryz.f43 ia io)
end F_label_Bucket
end Go.Proofs.YtcpkhpboemfglaaGreatDoor

namespace Go.Proofs.YtcpkhpboemfglaaGreatDoor
open Go Go.Va Go.Proofs
namespace F_bits_Pack
abbrev ia : List Ai := [.dat (.int .u64)]
abbrev io : List (Nat × Oi) := [(2, .val (.r 0 (.int .u8)))]
abbrev R : Type := DOut ia io
noncomputable def X (n : Nat) : Ctx := ⟨⟨tab, [], 0, []⟩, 19, bnOf 0 ia⟩
abbrev g1 : List Si := [.dat 0 (.int .u64), .val 3 (.r 200300 (.int .u8))]
abbrev g2 : List Si := [.dat 0 (.int .u64), .val 3 (.r 200300 (.int .u8))]
noncomputable def T : CT := (.s .o (.s .o (.s (.b (.l g1 .o)) (.r g2 .o))))
noncomputable def J1 (n : Nat) (m : Nat) : Int × (List (Int)) × Unit → Option R := jL (X n) n T (bodyOf Tryz.f103) (endK ia io) g1 [1, 1, 0, 0] [] m
noncomputable def J2 (n : Nat) : Int × (List (Int)) × Unit → Option R := jR (X n) n T (bodyOf Tryz.f103) (endK ia io) g2 [1, 1, 1] []
noncomputable def f (n : Nat) (n_ : Int) : Option R := fRun (X n) n T Tryz.f103 ia io (n_, ())
theorem e0 (n : Nat) (n_ : Int) : f n n_ =
  J1 n n (n_, [], ()) := (hideF_eq _).trans (by kernel_rfl)
theorem e1 (n m : Nat) (n_ : Int) (out : List (Int)) : J1 n (m + 1) (n_, out, ()) =
  bIf ((hide (decide (n_ ≥ (128 : Int))))) (
    gIf ((out.length + 1) * 1 ≤ 70368744177664) (
      gNo ((7 : Int) < 0) (
        J1 n m ((shrI .u64 n_ 7), (out ++ ([(bitI .or .u8 (IntKind.u8.wrap n_) 128)] : List (Int))), ())
        )
      )
    ) (
    J2 n (n_, out, ())
    ) := (hideF_eq _).trans (by kernel_rfl)
theorem e2 (n : Nat) (n_ : Int) (out : List (Int)) : J2 n (n_, out, ()) =
  gIf ((out.length + 1) * 1 ≤ 70368744177664) (
    some ((out ++ ([(IntKind.u8.wrap n_)] : List (Int))), ())
    ) := (hideF_eq _).trans (by kernel_rfl)
theorem phi (n : Nat) : ∀ e ∈ (X n).c.Φ, EntryOk Tryz.prog e := allE_nil
theorem ok (n : Nat) : FnOk Tryz.prog 103 ia io (fRun (X n) n T Tryz.f103 ia io) := tree_ok mixed tabIs (phi n) Tryz.func103 (by kernel_rfl) rfl
noncomputable def en (n : Nat) : Entry := mkEntry 103 ia io (fRun (X n) n T Tryz.f103 ia io)
end F_bits_Pack
end Go.Proofs.YtcpkhpboemfglaaGreatDoor

namespace Go.Proofs.YtcpkhpboemfglaaGreatDoor
open Go Go.Va Go.Proofs
namespace F_bits_Zig
abbrev ia : List Ai := [.dat (.int .i64)]
abbrev io : List (Nat × Oi) := [(2, .dat (.int .u64))]
abbrev R : Type := DOut ia io
noncomputable def X (n : Nat) : Ctx := ⟨⟨tab, [], 0, []⟩, 10, bnOf 0 ia⟩
noncomputable def T : CT := .o
noncomputable def f (n : Nat) (n_ : Int) : Option R := fRun (X n) n T Tryz.f172 ia io (n_, ())
theorem e0 (n : Nat) (n_ : Int) : f n n_ =
  gNo ((1 : Int) < 0) (
    gNo ((63 : Int) < 0) (
      some ((bitI .xor .u64 (shlI .u64 (IntKind.u64.wrap n_) 1) (IntKind.u64.wrap (shrI .i64 n_ 63))), ())
      )
    ) := (hideF_eq _).trans (by kernel_rfl)
theorem phi (n : Nat) : ∀ e ∈ (X n).c.Φ, EntryOk Tryz.prog e := allE_nil
theorem ok (n : Nat) : FnOk Tryz.prog 172 ia io (fRun (X n) n T Tryz.f172 ia io) := tree_ok mixed tabIs (phi n) Tryz.func172 (by kernel_rfl) rfl
noncomputable def en (n : Nat) : Entry := mkEntry 172 ia io (fRun (X n) n T Tryz.f172 ia io)
end F_bits_Zig
end Go.Proofs.YtcpkhpboemfglaaGreatDoor

namespace Go.Proofs.YtcpkhpboemfglaaGreatDoor
open Go Go.Va Go.Proofs
namespace F_ref01_Pack
abbrev ia : List Ai := [.dat (.int .u64)]
abbrev io : List (Nat × Oi) := [(2, .val (.r 0 (.int .u8)))]
abbrev R : Type := DOut ia io
noncomputable def X (n : Nat) : Ctx := ⟨⟨tab, [], 0, []⟩, 27, bnOf 0 ia⟩
abbrev g1 : List Si := [.dat 0 (.int .u64), .val 3 (.r 200300 (.int .u8))]
abbrev g2 : List Si := [.val 3 (.r 200300 (.int .u8))]
noncomputable def T : CT := (.s .o (.s .o (.s (.b (.l g1 .o)) (.r g2 .o))))
noncomputable def J1 (n : Nat) (m : Nat) : Int × (List (Int)) × Unit → Option R := jL (X n) n T (bodyOf Tryz.f163) (endK ia io) g1 [1, 1, 0, 0] [] m
noncomputable def J2 (n : Nat) : (List (Int)) × Unit → Option R := jR (X n) n T (bodyOf Tryz.f163) (endK ia io) g2 [1, 1, 1] []
noncomputable def f (n : Nat) (n_ : Int) : Option R := fRun (X n) n T Tryz.f163 ia io (n_, ())
theorem e0 (n : Nat) (n_ : Int) : f n n_ =
  gNo ((128 : Int) = 0) (
    J1 n n (n_, ([(IntKind.u8.wrap (Int.tmod n_ 128))] : List (Int)), ())
    ) := (hideF_eq _).trans (by kernel_rfl)
theorem e1 (n m : Nat) (n_ : Int) (out : List (Int)) : J1 n (m + 1) (n_, out, ()) =
  bIf ((hide (decide (n_ ≥ (128 : Int))))) (
    gIf (0 ≤ (IntKind.i64.wrap (((out.length : Nat) : Int) - (1 : Int))) ∧ (IntKind.i64.wrap (((out.length : Nat) : Int) - (1 : Int))) < ((out.length : Nat) : Int)) (
      gIf (0 ≤ (IntKind.i64.wrap (((out.length : Nat) : Int) - (1 : Int))) ∧ (IntKind.i64.wrap (((out.length : Nat) : Int) - (1 : Int))) < ((out.length : Nat) : Int)) (
        gNo ((128 : Int) = 0) (
          gNo ((128 : Int) = 0) (
            gIf (((List.set out (0 + ((IntKind.i64.wrap (((out.length : Nat) : Int) - (1 : Int))).toNat)) (IntKind.u8.wrap ((List.getD out (0 + ((IntKind.i64.wrap (((out.length : Nat) : Int) - (1 : Int))).toNat)) 0) + (128 : Int)))).length + 1) * 1 ≤ 70368744177664) (
              J1 n m ((IntKind.u64.wrap (Int.tdiv n_ 128)), ((List.set out (0 + ((IntKind.i64.wrap (((out.length : Nat) : Int) - (1 : Int))).toNat)) (IntKind.u8.wrap ((List.getD out (0 + ((IntKind.i64.wrap (((out.length : Nat) : Int) - (1 : Int))).toNat)) 0) + (128 : Int)))) ++ ([(IntKind.u8.wrap (Int.tmod (IntKind.u64.wrap (Int.tdiv n_ 128)) 128))] : List (Int))), ())
              )
            )
          )
        )
      )
    ) (
    J2 n (out, ())
    ) := (hideF_eq _).trans (by kernel_rfl)
theorem e2 (n : Nat) (out : List (Int)) : J2 n (out, ()) =
  some (out, ()) := (hideF_eq _).trans (by kernel_rfl)
theorem phi (n : Nat) : ∀ e ∈ (X n).c.Φ, EntryOk Tryz.prog e := allE_nil
theorem ok (n : Nat) : FnOk Tryz.prog 163 ia io (fRun (X n) n T Tryz.f163 ia io) := tree_ok mixed tabIs (phi n) Tryz.func163 (by kernel_rfl) rfl
noncomputable def en (n : Nat) : Entry := mkEntry 163 ia io (fRun (X n) n T Tryz.f163 ia io)
end F_ref01_Pack
end Go.Proofs.YtcpkhpboemfglaaGreatDoor

namespace Go.Proofs.YtcpkhpboemfglaaGreatDoor
open Go Go.Va Go.Proofs
namespace F_ref01_Zig
abbrev ia : List Ai := [.dat (.int .i64)]
abbrev io : List (Nat × Oi) := [(2, .dat (.int .u64))]
abbrev R : Type := DOut ia io
noncomputable def X (n : Nat) : Ctx := ⟨⟨tab, [], 0, []⟩, 14, bnOf 0 ia⟩
noncomputable def T : CT := .o
noncomputable def f (n : Nat) (n_ : Int) : Option R := fRun (X n) n T Tryz.f173 ia io (n_, ())
theorem e0 (n : Nat) (n_ : Int) : f n n_ =
  bIf ((hide (decide (n_ ≥ (0 : Int))))) (
    some ((IntKind.u64.wrap ((2 : Int) * (IntKind.u64.wrap n_))), ())
    ) (
    some ((IntKind.u64.wrap ((IntKind.u64.wrap ((2 : Int) * (IntKind.u64.wrap (IntKind.i64.wrap (0 - (IntKind.i64.wrap (n_ + (1 : Int)))))))) + (1 : Int))), ())
    ) := (hideF_eq _).trans (by kernel_rfl)
theorem phi (n : Nat) : ∀ e ∈ (X n).c.Φ, EntryOk Tryz.prog e := allE_nil
theorem ok (n : Nat) : FnOk Tryz.prog 173 ia io (fRun (X n) n T Tryz.f173 ia io) := tree_ok mixed tabIs (phi n) Tryz.func173 (by kernel_rfl) rfl
noncomputable def en (n : Nat) : Entry := mkEntry 173 ia io (fRun (X n) n T Tryz.f173 ia io)
end F_ref01_Zig
end Go.Proofs.YtcpkhpboemfglaaGreatDoor

namespace Go.Proofs.YtcpkhpboemfglaaGreatDoor
open Go Go.Va Go.Proofs
namespace F_ref10_Num
abbrev ia : List Ai := [.dat (.int .u64)]
abbrev io : List (Nat × Oi) := [(2, .dat .str)]
abbrev R : Type := DOut ia io
noncomputable def X (n : Nat) : Ctx := ⟨⟨tab, [F_ref01_Pack.en n], 0, []⟩, 6, bnOf 0 ia⟩
noncomputable def T : CT := .o
noncomputable def f (n : Nat) (n_ : Int) : Option R := fRun (X n) n T Tryz.f88 ia io (n_, ())
theorem e0 (n : Nat) (n_ : Int) : f n n_ =
  bnd (F_ref01_Pack.f n n_) fun u1 =>
  some ((bytesOf u1.1), ()) := (hideF_eq _).trans (by kernel_rfl)
theorem phi (n : Nat) : ∀ e ∈ (X n).c.Φ, EntryOk Tryz.prog e := allE_cons (mkEntry_ok (F_ref01_Pack.ok n)) (allE_nil)
theorem ok (n : Nat) : FnOk Tryz.prog 88 ia io (fRun (X n) n T Tryz.f88 ia io) := tree_ok mixed tabIs (phi n) Tryz.func88 (by kernel_rfl) rfl
noncomputable def en (n : Nat) : Entry := mkEntry 88 ia io (fRun (X n) n T Tryz.f88 ia io)
end F_ref10_Num
end Go.Proofs.YtcpkhpboemfglaaGreatDoor

namespace Go.Proofs.YtcpkhpboemfglaaGreatDoor
open Go Go.Va Go.Proofs
namespace F_bytes_Equal
abbrev ia : List Ai := [.dat (.slice (.int .u8)), .dat (.slice (.int .u8))]
abbrev io : List (Nat × Oi) := [(4, .dat .bool)]
abbrev R : Type := DOut ia io
noncomputable def X (n : Nat) : Ctx := ⟨⟨tab, [], 0, []⟩, 10, bnOf 0 ia⟩
noncomputable def T : CT := .o
noncomputable def f (n : Nat) (a : List (Int)) (b : List (Int)) : Option R := fRun (X n) n T Tryz.f69 ia io (a, b, ())
theorem e0 (n : Nat) (a : List (Int)) (b : List (Int)) : f n a b =
  some ((hide (eqS (bytesOf a) (bytesOf b))), ()) := (hideF_eq _).trans (by kernel_rfl)
theorem phi (n : Nat) : ∀ e ∈ (X n).c.Φ, EntryOk Tryz.prog e := allE_nil
theorem ok (n : Nat) : FnOk Tryz.prog 69 ia io (fRun (X n) n T Tryz.f69 ia io) := tree_ok mixed tabIs (phi n) Tryz.func69 (by kernel_rfl) rfl
noncomputable def en (n : Nat) : Entry := mkEntry 69 ia io (fRun (X n) n T Tryz.f69 ia io)
end F_bytes_Equal
end Go.Proofs.YtcpkhpboemfglaaGreatDoor

namespace Go.Proofs.YtcpkhpboemfglaaGreatDoor
open Go Go.Va Go.Proofs
namespace F_bits_Unpack
abbrev ia : List Ai := [.dat (.slice (.int .u8))]
abbrev io : List (Nat × Oi) := [(2, .dat (.int .u64)), (3, .dat (.int .i64)), (4, .dat (.int .i64))]
abbrev R : Type := DOut ia io
noncomputable def X (n : Nat) : Ctx := ⟨⟨tab, [F_bytes_Equal.en n, F_bits_Pack.en n], 0, []⟩, 44, bnOf 0 ia⟩
abbrev g1 : List Si := [.dat 0 (.slice (.int .u8)), .dat 2 (.int .u64), .dat 7 (.slice (.int .u8)), .dat 8 (.int .i64), .dat 9 (.int .i64)]
abbrev g2 : List Si := [.dat 0 (.slice (.int .u8)), .dat 2 (.int .u64), .dat 5 (.int .i64), .dat 6 (.int .u8), .dat 7 (.slice (.int .u8)), .dat 8 (.int .i64), .dat 9 (.int .i64), .dat 19 .bool]
abbrev g3 : List Si := [.dat 0 (.slice (.int .u8)), .dat 2 (.int .u64), .dat 5 (.int .i64), .dat 6 (.int .u8), .dat 7 (.slice (.int .u8)), .dat 8 (.int .i64), .dat 9 (.int .i64)]
abbrev g4 : List Si := []
noncomputable def T : CT := (.s .o (.s (.s .o (.b (.l g1 (.s .o (.s .o (.s (.b (.s .o (.s (.s .o (.r g2 .o)) (.r g3 .o)))) .o)))))) (.r g4 .o)))
noncomputable def J1 (n : Nat) (m : Nat) : (List (Int)) × Int × (List (Int)) × Int × Int × Unit → Option R := jL (X n) n T (bodyOf Tryz.f185) (endK ia io) g1 [1, 0, 1, 0] [] m
noncomputable def J2 (n m1 : Nat) : (List (Int)) × Int × Int × Int × (List (Int)) × Int × Int × Bool × Unit → Option R := jR (X n) n T (bodyOf Tryz.f185) (endK ia io) g2 [1, 0, 1, 0, 0, 1, 1, 0, 0, 1, 0, 1] [m1]
noncomputable def J3 (n m1 : Nat) : (List (Int)) × Int × Int × Int × (List (Int)) × Int × Int × Unit → Option R := jR (X n) n T (bodyOf Tryz.f185) (endK ia io) g3 [1, 0, 1, 0, 0, 1, 1, 0, 0, 1, 1] [m1]
noncomputable def J4 (n : Nat) : Unit → Option R := jR (X n) n T (bodyOf Tryz.f185) (endK ia io) g4 [1, 1] []
noncomputable def f (n : Nat) (b : List (Int)) : Option R := fRun (X n) n T Tryz.f185 ia io (b, ())
theorem e0 (n : Nat) (b : List (Int)) : f n b =
  J1 n n (b, 0, b, ((b.length : Nat) : Int), 0, ()) := (hideF_eq _).trans (by kernel_rfl)
theorem e1 (n m : Nat) (b : List (Int)) (n_ : Int) (t7 : List (Int)) (t8 : Int) (t9 : Int) : J1 n (m + 1) (b, n_, t7, t8, t9, ()) =
  bIf ((hide (decide (t9 < t8)))) (
    gIf (0 ≤ t9 ∧ t9 < ((t7.length : Nat) : Int)) (
      bIf ((hide (t9 == (9 : Int)))) (
        J2 n m (b, n_, t9, (List.getD t7 t9.toNat 0), t7, t8, t9, (hide (decide ((List.getD t7 t9.toNat 0) > (1 : Int)))), ())
        ) (
        J2 n m (b, n_, t9, (List.getD t7 t9.toNat 0), t7, t8, t9, false, ())
        )
      )
    ) (
    J4 n (())
    ) := (hideF_eq _).trans (by kernel_rfl)
theorem e2 (n m1 : Nat) (b : List (Int)) (n_ : Int) (i : Int) (x_ : Int) (t7 : List (Int)) (t8 : Int) (t9 : Int) (t19 : Bool) : J2 n m1 (b, n_, i, x_, t7, t8, t9, t19, ()) =
  bIf (t19) (
    some (0, 0, 2, ())
    ) (
    J3 n m1 (b, n_, i, x_, t7, t8, t9, ())
    ) := (hideF_eq _).trans (by kernel_rfl)
theorem e3 (n m1 : Nat) (b : List (Int)) (n_ : Int) (i : Int) (x_ : Int) (t7 : List (Int)) (t8 : Int) (t9 : Int) : J3 n m1 (b, n_, i, x_, t7, t8, t9, ()) =
  gNo ((IntKind.u64.wrap ((7 : Int) * (IntKind.u64.wrap i))) < 0) (
    gNo ((7 : Int) < 0) (
      bIf ((hide ((shrI .u8 x_ 7) != (0 : Int)))) (
        J1 n m1 (b, (bitI .or .u64 n_ (shlI .u64 (IntKind.u64.wrap (bitI .andNot .u8 x_ 128)) (IntKind.u64.wrap ((7 : Int) * (IntKind.u64.wrap i))))), t7, t8, (IntKind.i64.wrap (t9 + (1 : Int))), ())
        ) (
        bnd (F_bits_Pack.f n (bitI .or .u64 n_ (shlI .u64 (IntKind.u64.wrap (bitI .andNot .u8 x_ 128)) (IntKind.u64.wrap ((7 : Int) * (IntKind.u64.wrap i)))))) fun u1 =>
        gIf (0 ≤ (IntKind.i64.wrap (i + (1 : Int))) ∧ (IntKind.i64.wrap (i + (1 : Int))) ≤ ((b.length : Nat) : Int)) (
          gIf (0 ≤ (0 : Int) ∧ (0 : Int) ≤ (IntKind.i64.wrap (i + (1 : Int)))) (
            bnd (F_bytes_Equal.f n u1.1 ((b.take ((IntKind.i64.wrap (i + (1 : Int))).toNat)).drop 0)) fun u2 =>
            bIf ((!u2.1)) (
              some (0, 0, 2, ())
              ) (
              some ((bitI .or .u64 n_ (shlI .u64 (IntKind.u64.wrap (bitI .andNot .u8 x_ 128)) (IntKind.u64.wrap ((7 : Int) * (IntKind.u64.wrap i))))), (IntKind.i64.wrap (i + (1 : Int))), 0, ())
              )
            )
          )
        )
      )
    ) := (hideF_eq _).trans (by kernel_rfl)
theorem e4 (n : Nat) : J4 n (()) =
  some (0, 0, 3, ()) := (hideF_eq _).trans (by kernel_rfl)
theorem phi (n : Nat) : ∀ e ∈ (X n).c.Φ, EntryOk Tryz.prog e := allE_cons (mkEntry_ok (F_bytes_Equal.ok n)) (allE_cons (mkEntry_ok (F_bits_Pack.ok n)) (allE_nil))
theorem ok (n : Nat) : FnOk Tryz.prog 185 ia io (fRun (X n) n T Tryz.f185 ia io) := tree_ok mixed tabIs (phi n) Tryz.func185 (by kernel_rfl) rfl
noncomputable def en (n : Nat) : Entry := mkEntry 185 ia io (fRun (X n) n T Tryz.f185 ia io)
end F_bits_Unpack
end Go.Proofs.YtcpkhpboemfglaaGreatDoor

namespace Go.Proofs.YtcpkhpboemfglaaGreatDoor
open Go Go.Va Go.Proofs
namespace F_bits_Zag
abbrev ia : List Ai := [.dat (.int .u64)]
abbrev io : List (Nat × Oi) := [(2, .dat (.int .i64))]
abbrev R : Type := DOut ia io
noncomputable def X (n : Nat) : Ctx := ⟨⟨tab, [], 0, []⟩, 11, bnOf 0 ia⟩
noncomputable def T : CT := .o
noncomputable def f (n : Nat) (u : Int) : Option R := fRun (X n) n T Tryz.f186 ia io (u, ())
theorem e0 (n : Nat) (u : Int) : f n u =
  gNo ((1 : Int) < 0) (
    some ((bitI .xor .i64 (IntKind.i64.wrap (shrI .u64 u 1)) (IntKind.i64.wrap (0 - (IntKind.i64.wrap (bitI .and .u64 u 1))))), ())
    ) := (hideF_eq _).trans (by kernel_rfl)
theorem phi (n : Nat) : ∀ e ∈ (X n).c.Φ, EntryOk Tryz.prog e := allE_nil
theorem ok (n : Nat) : FnOk Tryz.prog 186 ia io (fRun (X n) n T Tryz.f186 ia io) := tree_ok mixed tabIs (phi n) Tryz.func186 (by kernel_rfl) rfl
noncomputable def en (n : Nat) : Entry := mkEntry 186 ia io (fRun (X n) n T Tryz.f186 ia io)
end F_bits_Zag
end Go.Proofs.YtcpkhpboemfglaaGreatDoor

namespace Go.Proofs.YtcpkhpboemfglaaGreatDoor
open Go Go.Va Go.Proofs
namespace F_pack_Writer_put
abbrev ia : List Ai := [.ptr (.p (.r 0 (.int .u8)) (.d .unit)), .dat (.slice (.int .u8))]
abbrev io : List (Nat × Oi) := [(4, .arg 0 500000 (.d T_pack_Writer))]
abbrev R : Type := DOut ia io
noncomputable def X (n : Nat) : Ctx := ⟨⟨tab, [], 0, []⟩, 17, bnOf 0 ia⟩
noncomputable def T : CT := .o
noncomputable def f (n : Nat) (w_ : D_pack_Writer) (b : List (Int)) : Option R := fRun (X n) n T Tryz.f102 ia io (w_, b, ())
theorem e0 (n : Nat) (w_ : D_pack_Writer) (b : List (Int)) : f n w_ b =
  bIf ((hide true)) (
    gIf ((w_.1.length + b.length) * 1 ≤ 70368744177664) (
      some (((w_.1 ++ b), w_.2), ())
      )
    ) (
    some ((w_.1, w_.2), ())
    ) := (hideF_eq _).trans (by kernel_rfl)
theorem phi (n : Nat) : ∀ e ∈ (X n).c.Φ, EntryOk Tryz.prog e := allE_nil
theorem ok (n : Nat) : FnOk Tryz.prog 102 ia io (fRun (X n) n T Tryz.f102 ia io) := tree_ok mixed tabIs (phi n) Tryz.func102 (by kernel_rfl) rfl
noncomputable def en (n : Nat) : Entry := mkEntry 102 ia io (fRun (X n) n T Tryz.f102 ia io)
end F_pack_Writer_put
end Go.Proofs.YtcpkhpboemfglaaGreatDoor

namespace Go.Proofs.YtcpkhpboemfglaaGreatDoor
open Go Go.Va Go.Proofs
namespace F_pack_Writer_Num
abbrev ia : List Ai := [.ptr (.p (.r 0 (.int .u8)) (.d .unit)), .dat (.int .u64)]
abbrev io : List (Nat × Oi) := [(4, .arg 0 500000 (.d T_pack_Writer))]
abbrev R : Type := DOut ia io
noncomputable def X (n : Nat) : Ctx := ⟨⟨tab, [F_pack_Writer_put.en n, F_bits_Pack.en n], 0, []⟩, 9, bnOf 0 ia⟩
noncomputable def T : CT := .o
noncomputable def f (n : Nat) (w_ : D_pack_Writer) (n_ : Int) : Option R := fRun (X n) n T Tryz.f37 ia io (w_, n_, ())
theorem e0 (n : Nat) (w_ : D_pack_Writer) (n_ : Int) : f n w_ n_ =
  bnd (F_bits_Pack.f n n_) fun u1 =>
  bnd (F_pack_Writer_put.f n (w_.1, w_.2) u1.1) fun u2 =>
  some ((u2.1.1, u2.1.2), ()) := (hideF_eq _).trans (by kernel_rfl)
theorem phi (n : Nat) : ∀ e ∈ (X n).c.Φ, EntryOk Tryz.prog e := allE_cons (mkEntry_ok (F_pack_Writer_put.ok n)) (allE_cons (mkEntry_ok (F_bits_Pack.ok n)) (allE_nil))
theorem ok (n : Nat) : FnOk Tryz.prog 37 ia io (fRun (X n) n T Tryz.f37 ia io) := tree_ok mixed tabIs (phi n) Tryz.func37 (by kernel_rfl) rfl
noncomputable def en (n : Nat) : Entry := mkEntry 37 ia io (fRun (X n) n T Tryz.f37 ia io)
end F_pack_Writer_Num
end Go.Proofs.YtcpkhpboemfglaaGreatDoor

namespace Go.Proofs.YtcpkhpboemfglaaGreatDoor
open Go Go.Va Go.Proofs
namespace F_entry_Writer_Default
abbrev ia : List Ai := [.fn (.str 1) [(.p (.r 0 (.int .u8)) (.d .unit))], .dat T_api_Default]
abbrev io : List (Nat × Oi) := []
abbrev R : Type := DOut ia io
noncomputable def X (n : Nat) : Ctx := ⟨⟨tab, [F_pack_Writer_Num.en n], 0, []⟩, 14, bnOf 0 ia⟩
noncomputable def T : CT := .o
noncomputable def f (n : Nat) (wc0 : D_pack_Writer) (d : D_api_Default) : Option R := fRun (X n) n T Tryz.f105 ia io (wc0, d, ())
theorem e0 (n : Nat) (wc0 : D_pack_Writer) (d : D_api_Default) : f n wc0 d =
  bnd (F_pack_Writer_Num.f n (wc0.1, wc0.2) (IntKind.u64.wrap d.1)) fun u1 =>
  bnd (F_pack_Writer_Num.f n (u1.1.1, u1.1.2) (IntKind.u64.wrap d.2.1)) fun u2 =>
  some ((u2.1.1, u2.1.2), ()) := (hideF_eq _).trans (by kernel_rfl)
theorem phi (n : Nat) : ∀ e ∈ (X n).c.Φ, EntryOk Tryz.prog e := allE_cons (mkEntry_ok (F_pack_Writer_Num.ok n)) (allE_nil)
theorem ok (n : Nat) : FnOk Tryz.prog 105 ia io (fRun (X n) n T Tryz.f105 ia io) := tree_ok mixed tabIs (phi n) Tryz.func105 (by kernel_rfl) rfl
noncomputable def en (n : Nat) : Entry := mkEntry 105 ia io (fRun (X n) n T Tryz.f105 ia io)
end F_entry_Writer_Default
end Go.Proofs.YtcpkhpboemfglaaGreatDoor

namespace Go.Proofs.YtcpkhpboemfglaaGreatDoor
open Go Go.Va Go.Proofs
namespace F_pack_Writer_Flag
abbrev ia : List Ai := [.ptr (.p (.r 0 (.int .u8)) (.d .unit)), .dat .bool]
abbrev io : List (Nat × Oi) := [(4, .arg 0 500000 (.d T_pack_Writer))]
abbrev R : Type := DOut ia io
noncomputable def X (n : Nat) : Ctx := ⟨⟨tab, [F_pack_Writer_put.en n], 0, []⟩, 12, bnOf 0 ia⟩
noncomputable def T : CT := .o
noncomputable def f (n : Nat) (w_ : D_pack_Writer) (b : Bool) : Option R := fRun (X n) n T Tryz.f84 ia io (w_, b, ())
theorem e0 (n : Nat) (w_ : D_pack_Writer) (b : Bool) : f n w_ b =
  bIf (b) (
    bnd (F_pack_Writer_put.f n (w_.1, w_.2) ([1] : List (Int))) fun u1 =>
    some ((u1.1.1, u1.1.2), ())
    ) (
    bnd (F_pack_Writer_put.f n (w_.1, w_.2) ([0] : List (Int))) fun u2 =>
    some ((u2.1.1, u2.1.2), ())
    ) := (hideF_eq _).trans (by kernel_rfl)
theorem phi (n : Nat) : ∀ e ∈ (X n).c.Φ, EntryOk Tryz.prog e := allE_cons (mkEntry_ok (F_pack_Writer_put.ok n)) (allE_nil)
theorem ok (n : Nat) : FnOk Tryz.prog 84 ia io (fRun (X n) n T Tryz.f84 ia io) := tree_ok mixed tabIs (phi n) Tryz.func84 (by kernel_rfl) rfl
noncomputable def en (n : Nat) : Entry := mkEntry 84 ia io (fRun (X n) n T Tryz.f84 ia io)
end F_pack_Writer_Flag
end Go.Proofs.YtcpkhpboemfglaaGreatDoor

namespace Go.Proofs.YtcpkhpboemfglaaGreatDoor
open Go Go.Va Go.Proofs
namespace F_pack_Writer_Text
abbrev ia : List Ai := [.ptr (.p (.r 0 (.int .u8)) (.d .unit)), .dat .str]
abbrev io : List (Nat × Oi) := [(4, .arg 0 500000 (.d T_pack_Writer))]
abbrev R : Type := DOut ia io
noncomputable def X (n : Nat) : Ctx := ⟨⟨tab, [F_pack_Writer_Num.en n, F_pack_Writer_put.en n], 0, []⟩, 13, bnOf 0 ia⟩
noncomputable def T : CT := .o
noncomputable def f (n : Nat) (w_ : D_pack_Writer) (s_ : ByteArray) : Option R := fRun (X n) n T Tryz.f83 ia io (w_, s_, ())
theorem e0 (n : Nat) (w_ : D_pack_Writer) (s_ : ByteArray) : f n w_ s_ =
  bnd (F_pack_Writer_Num.f n (w_.1, w_.2) (IntKind.u64.wrap (s_.size : Int))) fun u1 =>
  bnd (F_pack_Writer_put.f n (u1.1.1, u1.1.2) (ofBytes s_)) fun u2 =>
  some ((u2.1.1, u2.1.2), ()) := (hideF_eq _).trans (by kernel_rfl)
theorem phi (n : Nat) : ∀ e ∈ (X n).c.Φ, EntryOk Tryz.prog e := allE_cons (mkEntry_ok (F_pack_Writer_Num.ok n)) (allE_cons (mkEntry_ok (F_pack_Writer_put.ok n)) (allE_nil))
theorem ok (n : Nat) : FnOk Tryz.prog 83 ia io (fRun (X n) n T Tryz.f83 ia io) := tree_ok mixed tabIs (phi n) Tryz.func83 (by kernel_rfl) rfl
noncomputable def en (n : Nat) : Entry := mkEntry 83 ia io (fRun (X n) n T Tryz.f83 ia io)
end F_pack_Writer_Text
end Go.Proofs.YtcpkhpboemfglaaGreatDoor

namespace Go.Proofs.YtcpkhpboemfglaaGreatDoor
open Go Go.Va Go.Proofs
namespace F_entry_Writer_Grants
abbrev ia : List Ai := [.fn (.str 1) [(.p (.r 0 (.int .u8)) (.d .unit))], .dat (.slice T_api_Grant)]
abbrev io : List (Nat × Oi) := []
abbrev R : Type := DOut ia io
noncomputable def X (n : Nat) : Ctx := ⟨⟨tab, [F_pack_Writer_Num.en n, F_pack_Writer_Text.en n, F_pack_Writer_Flag.en n], 0, []⟩, 33, bnOf 0 ia⟩
abbrev g1 : List Si := [.ref 2 2 T_entry_Reader, .dat 12 (.slice T_api_Grant), .dat 13 (.int .i64), .dat 14 (.int .i64), .box 2 (.p (.al 500000 T_pack_Writer) (.d .unit)), .box 500000 (.p (.r 100000500000000 (.int .u8)) (.d .unit))]
noncomputable def T : CT := (.s .o (.s .o (.s .o (.b (.l g1 .o)))))
noncomputable def J1 (n : Nat) (m : Nat) : (List (D_api_Grant)) × Int × Int × D_entry_Reader × D_pack_Writer × Unit → Option R := jL (X n) n T (bodyOf Tryz.f107) (endK ia io) g1 [1, 1, 1, 0] [] m
noncomputable def f (n : Nat) (wc0 : D_pack_Writer) (list : List (D_api_Grant)) : Option R := fRun (X n) n T Tryz.f107 ia io (wc0, list, ())
theorem e0 (n : Nat) (wc0 : D_pack_Writer) (list : List (D_api_Grant)) : f n wc0 list =
  bnd (F_pack_Writer_Num.f n (wc0.1, wc0.2) (IntKind.u64.wrap ((list.length : Nat) : Int))) fun u1 =>
  J1 n n (list, ((list.length : Nat) : Int), 0, ((), ()), (u1.1.1, u1.1.2), ()) := (hideF_eq _).trans (by kernel_rfl)
theorem e1 (n m : Nat) (t12 : List (D_api_Grant)) (t13 : Int) (t14 : Int) (w_ : D_entry_Reader) (b500000 : D_pack_Writer) : J1 n (m + 1) (t12, t13, t14, w_, b500000, ()) =
  bIf ((hide (decide (t14 < t13)))) (
    gIf (0 ≤ t14 ∧ t14 < ((t12.length : Nat) : Int)) (
      bnd (F_pack_Writer_Flag.f n (b500000.1, b500000.2) ((List.getD t12 t14.toNat (Va.dflt T_api_Grant)).1)) fun u1 =>
      bnd (F_pack_Writer_Text.f n (u1.1.1, u1.1.2) (((List.getD t12 t14.toNat (Va.dflt T_api_Grant)).2).1)) fun u2 =>
      bnd (F_pack_Writer_Text.f n (u2.1.1, u2.1.2) ((((List.getD t12 t14.toNat (Va.dflt T_api_Grant)).2).2).1)) fun u3 =>
      bnd (F_pack_Writer_Text.f n (u3.1.1, u3.1.2) (((((List.getD t12 t14.toNat (Va.dflt T_api_Grant)).2).2).2).1)) fun u4 =>
      J1 n m (t12, t13, (IntKind.i64.wrap (t14 + (1 : Int))), ((), w_.2), (u4.1.1, u4.1.2), ())
      )
    ) (
    some ((b500000.1, b500000.2), ())
    ) := (hideF_eq _).trans (by kernel_rfl)
theorem phi (n : Nat) : ∀ e ∈ (X n).c.Φ, EntryOk Tryz.prog e := allE_cons (mkEntry_ok (F_pack_Writer_Num.ok n)) (allE_cons (mkEntry_ok (F_pack_Writer_Text.ok n)) (allE_cons (mkEntry_ok (F_pack_Writer_Flag.ok n)) (allE_nil)))
theorem ok (n : Nat) : FnOk Tryz.prog 107 ia io (fRun (X n) n T Tryz.f107 ia io) := tree_ok mixed tabIs (phi n) Tryz.func107 (by kernel_rfl) rfl
noncomputable def en (n : Nat) : Entry := mkEntry 107 ia io (fRun (X n) n T Tryz.f107 ia io)
end F_entry_Writer_Grants
end Go.Proofs.YtcpkhpboemfglaaGreatDoor

namespace Go.Proofs.YtcpkhpboemfglaaGreatDoor
open Go Go.Va Go.Proofs
namespace F_pack_Writer_Int
abbrev ia : List Ai := [.ptr (.p (.r 0 (.int .u8)) (.d .unit)), .dat (.int .i64)]
abbrev io : List (Nat × Oi) := [(4, .arg 0 500000 (.d T_pack_Writer))]
abbrev R : Type := DOut ia io
noncomputable def X (n : Nat) : Ctx := ⟨⟨tab, [F_pack_Writer_Num.en n, F_bits_Zig.en n], 0, []⟩, 9, bnOf 0 ia⟩
noncomputable def T : CT := .o
noncomputable def f (n : Nat) (w_ : D_pack_Writer) (n_ : Int) : Option R := fRun (X n) n T Tryz.f104 ia io (w_, n_, ())
theorem e0 (n : Nat) (w_ : D_pack_Writer) (n_ : Int) : f n w_ n_ =
  bnd (F_bits_Zig.f n n_) fun u1 =>
  bnd (F_pack_Writer_Num.f n (w_.1, w_.2) u1.1) fun u2 =>
  some ((u2.1.1, u2.1.2), ()) := (hideF_eq _).trans (by kernel_rfl)
theorem phi (n : Nat) : ∀ e ∈ (X n).c.Φ, EntryOk Tryz.prog e := allE_cons (mkEntry_ok (F_pack_Writer_Num.ok n)) (allE_cons (mkEntry_ok (F_bits_Zig.ok n)) (allE_nil))
theorem ok (n : Nat) : FnOk Tryz.prog 104 ia io (fRun (X n) n T Tryz.f104 ia io) := tree_ok mixed tabIs (phi n) Tryz.func104 (by kernel_rfl) rfl
noncomputable def en (n : Nat) : Entry := mkEntry 104 ia io (fRun (X n) n T Tryz.f104 ia io)
end F_pack_Writer_Int
end Go.Proofs.YtcpkhpboemfglaaGreatDoor

namespace Go.Proofs.YtcpkhpboemfglaaGreatDoor
open Go Go.Va Go.Proofs
namespace F_entry_Writer_Lock
abbrev ia : List Ai := [.fn (.str 1) [(.p (.r 0 (.int .u8)) (.d .unit))], .dat T_api_Lock]
abbrev io : List (Nat × Oi) := []
abbrev R : Type := DOut ia io
noncomputable def X (n : Nat) : Ctx := ⟨⟨tab, [F_pack_Writer_Num.en n, F_pack_Writer_Flag.en n, F_pack_Writer_Int.en n], 0, []⟩, 16, bnOf 0 ia⟩
noncomputable def T : CT := .o
noncomputable def f (n : Nat) (wc0 : D_pack_Writer) (l : D_api_Lock) : Option R := fRun (X n) n T Tryz.f108 ia io (wc0, l, ())
theorem e0 (n : Nat) (wc0 : D_pack_Writer) (l : D_api_Lock) : f n wc0 l =
  bnd (F_pack_Writer_Num.f n (wc0.1, wc0.2) (IntKind.u64.wrap l.1)) fun u1 =>
  bnd (F_pack_Writer_Int.f n (u1.1.1, u1.1.2) l.2.1) fun u2 =>
  bnd (F_pack_Writer_Flag.f n (u2.1.1, u2.1.2) l.2.2.1) fun u3 =>
  some ((u3.1.1, u3.1.2), ()) := (hideF_eq _).trans (by kernel_rfl)
theorem phi (n : Nat) : ∀ e ∈ (X n).c.Φ, EntryOk Tryz.prog e := allE_cons (mkEntry_ok (F_pack_Writer_Num.ok n)) (allE_cons (mkEntry_ok (F_pack_Writer_Flag.ok n)) (allE_cons (mkEntry_ok (F_pack_Writer_Int.ok n)) (allE_nil)))
theorem ok (n : Nat) : FnOk Tryz.prog 108 ia io (fRun (X n) n T Tryz.f108 ia io) := tree_ok mixed tabIs (phi n) Tryz.func108 (by kernel_rfl) rfl
noncomputable def en (n : Nat) : Entry := mkEntry 108 ia io (fRun (X n) n T Tryz.f108 ia io)
end F_entry_Writer_Lock
end Go.Proofs.YtcpkhpboemfglaaGreatDoor

namespace Go.Proofs.YtcpkhpboemfglaaGreatDoor
open Go Go.Va Go.Proofs
namespace F_entry_Writer_Tags
abbrev ia : List Ai := [.fn (.str 1) [(.p (.r 0 (.int .u8)) (.d .unit))], .dat (.slice T_api_Tag)]
abbrev io : List (Nat × Oi) := []
abbrev R : Type := DOut ia io
noncomputable def X (n : Nat) : Ctx := ⟨⟨tab, [F_pack_Writer_Num.en n, F_pack_Writer_Text.en n], 0, []⟩, 27, bnOf 0 ia⟩
abbrev g1 : List Si := [.ref 2 2 T_entry_Reader, .dat 12 (.slice T_api_Tag), .dat 13 (.int .i64), .dat 14 (.int .i64), .box 2 (.p (.al 500000 T_pack_Writer) (.d .unit)), .box 500000 (.p (.r 100000500000000 (.int .u8)) (.d .unit))]
noncomputable def T : CT := (.s .o (.s .o (.s .o (.b (.l g1 .o)))))
noncomputable def J1 (n : Nat) (m : Nat) : (List (D_api_Tag)) × Int × Int × D_entry_Reader × D_pack_Writer × Unit → Option R := jL (X n) n T (bodyOf Tryz.f109) (endK ia io) g1 [1, 1, 1, 0] [] m
noncomputable def f (n : Nat) (wc0 : D_pack_Writer) (list : List (D_api_Tag)) : Option R := fRun (X n) n T Tryz.f109 ia io (wc0, list, ())
theorem e0 (n : Nat) (wc0 : D_pack_Writer) (list : List (D_api_Tag)) : f n wc0 list =
  bnd (F_pack_Writer_Num.f n (wc0.1, wc0.2) (IntKind.u64.wrap ((list.length : Nat) : Int))) fun u1 =>
  J1 n n (list, ((list.length : Nat) : Int), 0, ((), ()), (u1.1.1, u1.1.2), ()) := (hideF_eq _).trans (by kernel_rfl)
theorem e1 (n m : Nat) (t12 : List (D_api_Tag)) (t13 : Int) (t14 : Int) (w_ : D_entry_Reader) (b500000 : D_pack_Writer) : J1 n (m + 1) (t12, t13, t14, w_, b500000, ()) =
  bIf ((hide (decide (t14 < t13)))) (
    gIf (0 ≤ t14 ∧ t14 < ((t12.length : Nat) : Int)) (
      bnd (F_pack_Writer_Text.f n (b500000.1, b500000.2) ((List.getD t12 t14.toNat (Va.dflt T_api_Tag)).1)) fun u1 =>
      bnd (F_pack_Writer_Text.f n (u1.1.1, u1.1.2) (((List.getD t12 t14.toNat (Va.dflt T_api_Tag)).2).1)) fun u2 =>
      J1 n m (t12, t13, (IntKind.i64.wrap (t14 + (1 : Int))), ((), w_.2), (u2.1.1, u2.1.2), ())
      )
    ) (
    some ((b500000.1, b500000.2), ())
    ) := (hideF_eq _).trans (by kernel_rfl)
theorem phi (n : Nat) : ∀ e ∈ (X n).c.Φ, EntryOk Tryz.prog e := allE_cons (mkEntry_ok (F_pack_Writer_Num.ok n)) (allE_cons (mkEntry_ok (F_pack_Writer_Text.ok n)) (allE_nil))
theorem ok (n : Nat) : FnOk Tryz.prog 109 ia io (fRun (X n) n T Tryz.f109 ia io) := tree_ok mixed tabIs (phi n) Tryz.func109 (by kernel_rfl) rfl
noncomputable def en (n : Nat) : Entry := mkEntry 109 ia io (fRun (X n) n T Tryz.f109 ia io)
end F_entry_Writer_Tags
end Go.Proofs.YtcpkhpboemfglaaGreatDoor

namespace Go.Proofs.YtcpkhpboemfglaaGreatDoor
open Go Go.Va Go.Proofs
namespace F_entry_Writer_Rules
abbrev ia : List Ai := [.fn (.str 1) [(.p (.r 0 (.int .u8)) (.d .unit))], .dat (.slice T_api_Rule)]
abbrev io : List (Nat × Oi) := []
abbrev R : Type := DOut ia io
noncomputable def X (n : Nat) : Ctx := ⟨⟨tab, [F_pack_Writer_Num.en n, F_pack_Writer_Text.en n, F_pack_Writer_Flag.en n, F_entry_Writer_Tags.en n], 0, []⟩, 41, bnOf 0 ia⟩
abbrev g1 : List Si := [.ref 2 2 T_entry_Reader, .dat 12 (.slice T_api_Rule), .dat 13 (.int .i64), .dat 14 (.int .i64), .box 2 (.p (.al 500000 T_pack_Writer) (.d .unit)), .box 500000 (.p (.r 100000500000000 (.int .u8)) (.d .unit))]
noncomputable def T : CT := (.s .o (.s .o (.s .o (.b (.l g1 .o)))))
noncomputable def J1 (n : Nat) (m : Nat) : (List (D_api_Rule)) × Int × Int × D_entry_Reader × D_pack_Writer × Unit → Option R := jL (X n) n T (bodyOf Tryz.f106) (endK ia io) g1 [1, 1, 1, 0] [] m
noncomputable def f (n : Nat) (wc0 : D_pack_Writer) (list : List (D_api_Rule)) : Option R := fRun (X n) n T Tryz.f106 ia io (wc0, list, ())
theorem e0 (n : Nat) (wc0 : D_pack_Writer) (list : List (D_api_Rule)) : f n wc0 list =
  bnd (F_pack_Writer_Num.f n (wc0.1, wc0.2) (IntKind.u64.wrap ((list.length : Nat) : Int))) fun u1 =>
  J1 n n (list, ((list.length : Nat) : Int), 0, ((), ()), (u1.1.1, u1.1.2), ()) := (hideF_eq _).trans (by kernel_rfl)
theorem e1 (n m : Nat) (t12 : List (D_api_Rule)) (t13 : Int) (t14 : Int) (w_ : D_entry_Reader) (b500000 : D_pack_Writer) : J1 n (m + 1) (t12, t13, t14, w_, b500000, ()) =
  bIf ((hide (decide (t14 < t13)))) (
    gIf (0 ≤ t14 ∧ t14 < ((t12.length : Nat) : Int)) (
      bnd (F_pack_Writer_Text.f n (b500000.1, b500000.2) ((List.getD t12 t14.toNat (Va.dflt T_api_Rule)).1)) fun u1 =>
      bnd (F_entry_Writer_Tags.f n (u1.1.1, u1.1.2) (((List.getD t12 t14.toNat (Va.dflt T_api_Rule)).2).1)) fun u2 =>
      bnd (F_pack_Writer_Num.f n (u2.1.1, u2.1.2) (IntKind.u64.wrap ((((List.getD t12 t14.toNat (Va.dflt T_api_Rule)).2).2).1))) fun u3 =>
      bnd (F_pack_Writer_Num.f n (u3.1.1, u3.1.2) (IntKind.u64.wrap (((((List.getD t12 t14.toNat (Va.dflt T_api_Rule)).2).2).2).1))) fun u4 =>
      bnd (F_pack_Writer_Flag.f n (u4.1.1, u4.1.2) ((((((List.getD t12 t14.toNat (Va.dflt T_api_Rule)).2).2).2).2).1)) fun u5 =>
      J1 n m (t12, t13, (IntKind.i64.wrap (t14 + (1 : Int))), ((), w_.2), (u5.1.1, u5.1.2), ())
      )
    ) (
    some ((b500000.1, b500000.2), ())
    ) := (hideF_eq _).trans (by kernel_rfl)
theorem phi (n : Nat) : ∀ e ∈ (X n).c.Φ, EntryOk Tryz.prog e := allE_cons (mkEntry_ok (F_pack_Writer_Num.ok n)) (allE_cons (mkEntry_ok (F_pack_Writer_Text.ok n)) (allE_cons (mkEntry_ok (F_pack_Writer_Flag.ok n)) (allE_cons (mkEntry_ok (F_entry_Writer_Tags.ok n)) (allE_nil))))
theorem ok (n : Nat) : FnOk Tryz.prog 106 ia io (fRun (X n) n T Tryz.f106 ia io) := tree_ok mixed tabIs (phi n) Tryz.func106 (by kernel_rfl) rfl
noncomputable def en (n : Nat) : Entry := mkEntry 106 ia io (fRun (X n) n T Tryz.f106 ia io)
end F_entry_Writer_Rules
end Go.Proofs.YtcpkhpboemfglaaGreatDoor

namespace Go.Proofs.YtcpkhpboemfglaaGreatDoor
open Go Go.Va Go.Proofs
namespace F_pack_Writer_Digest
abbrev ia : List Ai := [.ptr (.p (.r 0 (.int .u8)) (.d .unit)), .dat (.arr 32 (.int .u8))]
abbrev io : List (Nat × Oi) := [(4, .arg 0 500000 (.d T_pack_Writer))]
abbrev R : Type := DOut ia io
noncomputable def X (n : Nat) : Ctx := ⟨⟨tab, [F_pack_Writer_put.en n], 0, [6]⟩, 8, bnOf 0 ia⟩
noncomputable def T : CT := .o
noncomputable def f (n : Nat) (w_ : D_pack_Writer) (d : List (Int)) : Option R := fRun (X n) n T Tryz.f162 ia io (w_, d, ())
theorem e0 (n : Nat) (w_ : D_pack_Writer) (d : List (Int)) : f n w_ d =
  bnd (F_pack_Writer_put.f n (w_.1, w_.2) d) fun u1 =>
  some ((u1.1.1, u1.1.2), ()) := (hideF_eq _).trans (by kernel_rfl)
theorem phi (n : Nat) : ∀ e ∈ (X n).c.Φ, EntryOk Tryz.prog e := allE_cons (mkEntry_ok (F_pack_Writer_put.ok n)) (allE_nil)
theorem ok (n : Nat) : FnOk Tryz.prog 162 ia io (fRun (X n) n T Tryz.f162 ia io) := tree_ok mixed tabIs (phi n) Tryz.func162 (by kernel_rfl) rfl
noncomputable def en (n : Nat) : Entry := mkEntry 162 ia io (fRun (X n) n T Tryz.f162 ia io)
end F_pack_Writer_Digest
end Go.Proofs.YtcpkhpboemfglaaGreatDoor

namespace Go.Proofs.YtcpkhpboemfglaaGreatDoor
open Go Go.Va Go.Proofs
namespace F_entry_Writer_Version
abbrev ia : List Ai := [.fn (.str 1) [(.p (.r 0 (.int .u8)) (.d .unit))], .dat T_api_Version]
abbrev io : List (Nat × Oi) := []
abbrev R : Type := DOut ia io
noncomputable def X (n : Nat) : Ctx := ⟨⟨tab, [F_pack_Writer_Num.en n, F_pack_Writer_Flag.en n, F_pack_Writer_Int.en n, F_entry_Writer_Lock.en n, F_entry_Writer_Tags.en n, F_pack_Writer_Digest.en n], 0, []⟩, 37, bnOf 0 ia⟩
noncomputable def T : CT := .o
noncomputable def f (n : Nat) (wc0 : D_pack_Writer) (v_ : D_api_Version) : Option R := fRun (X n) n T Tryz.f85 ia io (wc0, v_, ())
theorem e0 (n : Nat) (wc0 : D_pack_Writer) (v_ : D_api_Version) : f n wc0 v_ =
  bnd (F_pack_Writer_Num.f n (wc0.1, wc0.2) v_.1) fun u1 =>
  bnd (F_pack_Writer_Flag.f n (u1.1.1, u1.1.2) v_.2.1) fun u2 =>
  bnd (F_pack_Writer_Int.f n (u2.1.1, u2.1.2) v_.2.2.2.2.2.1) fun u3 =>
  bIf (v_.2.1) (
    some ((u3.1.1, u3.1.2), ())
    ) (
    bnd (F_pack_Writer_Num.f n (u3.1.1, u3.1.2) (IntKind.u64.wrap v_.2.2.1)) fun u4 =>
    bnd (F_pack_Writer_Num.f n (u4.1.1, u4.1.2) v_.2.2.2.1) fun u5 =>
    bnd (F_pack_Writer_Digest.f n (u5.1.1, u5.1.2) v_.2.2.2.2.1) fun u6 =>
    bnd (F_entry_Writer_Lock.f n (u6.1.1, u6.1.2) v_.2.2.2.2.2.2.1) fun u7 =>
    bnd (F_entry_Writer_Tags.f n (u7.1.1, u7.1.2) v_.2.2.2.2.2.2.2.1) fun u8 =>
    some ((u8.1.1, u8.1.2), ())
    ) := (hideF_eq _).trans (by kernel_rfl)
theorem phi (n : Nat) : ∀ e ∈ (X n).c.Φ, EntryOk Tryz.prog e := allE_cons (mkEntry_ok (F_pack_Writer_Num.ok n)) (allE_cons (mkEntry_ok (F_pack_Writer_Flag.ok n)) (allE_cons (mkEntry_ok (F_pack_Writer_Int.ok n)) (allE_cons (mkEntry_ok (F_entry_Writer_Lock.ok n)) (allE_cons (mkEntry_ok (F_entry_Writer_Tags.ok n)) (allE_cons (mkEntry_ok (F_pack_Writer_Digest.ok n)) (allE_nil))))))
theorem ok (n : Nat) : FnOk Tryz.prog 85 ia io (fRun (X n) n T Tryz.f85 ia io) := tree_ok mixed tabIs (phi n) Tryz.func85 (by kernel_rfl) rfl
noncomputable def en (n : Nat) : Entry := mkEntry 85 ia io (fRun (X n) n T Tryz.f85 ia io)
end F_entry_Writer_Version
end Go.Proofs.YtcpkhpboemfglaaGreatDoor

namespace Go.Proofs.YtcpkhpboemfglaaGreatDoor
open Go Go.Va Go.Proofs
namespace F_ref10_Digest
abbrev ia : List Ai := [.dat (.arr 32 (.int .u8))]
abbrev io : List (Nat × Oi) := [(2, .dat .str)]
abbrev R : Type := DOut ia io
noncomputable def X (n : Nat) : Ctx := ⟨⟨tab, [], 0, []⟩, 17, bnOf 0 ia⟩
abbrev g1 : List Si := [.ref 1 1 (.arr 32 (.int .u8)), .dat 3 .str, .dat 4 (.int .i64), .box 1 (.d (.arr 32 (.int .u8)))]
abbrev g2 : List Si := [.dat 3 .str]
noncomputable def T : CT := (.s .o (.s .o (.s (.s .o (.b (.l g1 .o))) (.r g2 .o))))
noncomputable def J1 (n : Nat) (m : Nat) : ByteArray × Int × (List (Int)) × Unit → Option R := jL (X n) n T (bodyOf Tryz.f164) (endK ia io) g1 [1, 1, 0, 1, 0] [] m
noncomputable def J2 (n : Nat) : ByteArray × Unit → Option R := jR (X n) n T (bodyOf Tryz.f164) (endK ia io) g2 [1, 1, 1] []
noncomputable def f (n : Nat) (d : List (Int)) : Option R := fRun (X n) n T Tryz.f164 ia io (d, ())
theorem e0 (n : Nat) (d : List (Int)) : f n d =
  J1 n n ((⟨#[]⟩ : ByteArray), 0, d, ()) := (hideF_eq _).trans (by kernel_rfl)
theorem e1 (n m : Nat) (out : ByteArray) (i : Int) (d : List (Int)) : J1 n (m + 1) (out, i, d, ()) =
  bIf ((hide (decide (i < (32 : Int))))) (
    gIf (0 ≤ i ∧ i < ((32 : Nat) : Int)) (
      gIf (out.size + (bytesOf ([(List.getD d i.toNat 0)] : List (Int))).size ≤ 4611686018427387904) (
        J1 n m ((out ++ (bytesOf ([(List.getD d i.toNat 0)] : List (Int)))), (IntKind.i64.wrap (i + (1 : Int))), d, ())
        )
      )
    ) (
    J2 n (out, ())
    ) := (hideF_eq _).trans (by kernel_rfl)
theorem e2 (n : Nat) (out : ByteArray) : J2 n (out, ()) =
  some (out, ()) := (hideF_eq _).trans (by kernel_rfl)
theorem phi (n : Nat) : ∀ e ∈ (X n).c.Φ, EntryOk Tryz.prog e := allE_nil
theorem ok (n : Nat) : FnOk Tryz.prog 164 ia io (fRun (X n) n T Tryz.f164 ia io) := tree_ok mixed tabIs (phi n) Tryz.func164 (by kernel_rfl) rfl
noncomputable def en (n : Nat) : Entry := mkEntry 164 ia io (fRun (X n) n T Tryz.f164 ia io)
end F_ref10_Digest
end Go.Proofs.YtcpkhpboemfglaaGreatDoor

namespace Go.Proofs.YtcpkhpboemfglaaGreatDoor
open Go Go.Va Go.Proofs
namespace F_ref10_Flag
abbrev ia : List Ai := [.dat .bool]
abbrev io : List (Nat × Oi) := [(2, .dat .str)]
abbrev R : Type := DOut ia io
noncomputable def X (n : Nat) : Ctx := ⟨⟨tab, [], 0, []⟩, 4, bnOf 0 ia⟩
noncomputable def T : CT := .o
noncomputable def f (n : Nat) (b : Bool) : Option R := fRun (X n) n T Tryz.f89 ia io (b, ())
theorem e0 (n : Nat) (b : Bool) : f n b =
  bIf (b) (
    some ((⟨#[1]⟩ : ByteArray), ())
    ) (
    some ((⟨#[0]⟩ : ByteArray), ())
    ) := (hideF_eq _).trans (by kernel_rfl)
theorem phi (n : Nat) : ∀ e ∈ (X n).c.Φ, EntryOk Tryz.prog e := allE_nil
theorem ok (n : Nat) : FnOk Tryz.prog 89 ia io (fRun (X n) n T Tryz.f89 ia io) := tree_ok mixed tabIs (phi n) Tryz.func89 (by kernel_rfl) rfl
noncomputable def en (n : Nat) : Entry := mkEntry 89 ia io (fRun (X n) n T Tryz.f89 ia io)
end F_ref10_Flag
end Go.Proofs.YtcpkhpboemfglaaGreatDoor

namespace Go.Proofs.YtcpkhpboemfglaaGreatDoor
open Go Go.Va Go.Proofs
namespace F_ref10_Int
abbrev ia : List Ai := [.dat (.int .i64)]
abbrev io : List (Nat × Oi) := [(2, .dat .str)]
abbrev R : Type := DOut ia io
noncomputable def X (n : Nat) : Ctx := ⟨⟨tab, [F_ref10_Num.en n, F_ref01_Zig.en n], 0, []⟩, 6, bnOf 0 ia⟩
noncomputable def T : CT := .o
noncomputable def f (n : Nat) (n_ : Int) : Option R := fRun (X n) n T Tryz.f113 ia io (n_, ())
theorem e0 (n : Nat) (n_ : Int) : f n n_ =
  bnd (F_ref01_Zig.f n n_) fun u1 =>
  bnd (F_ref10_Num.f n u1.1) fun u2 =>
  some (u2.1, ()) := (hideF_eq _).trans (by kernel_rfl)
theorem phi (n : Nat) : ∀ e ∈ (X n).c.Φ, EntryOk Tryz.prog e := allE_cons (mkEntry_ok (F_ref10_Num.ok n)) (allE_cons (mkEntry_ok (F_ref01_Zig.ok n)) (allE_nil))
theorem ok (n : Nat) : FnOk Tryz.prog 113 ia io (fRun (X n) n T Tryz.f113 ia io) := tree_ok mixed tabIs (phi n) Tryz.func113 (by kernel_rfl) rfl
noncomputable def en (n : Nat) : Entry := mkEntry 113 ia io (fRun (X n) n T Tryz.f113 ia io)
end F_ref10_Int
end Go.Proofs.YtcpkhpboemfglaaGreatDoor

namespace Go.Proofs.YtcpkhpboemfglaaGreatDoor
open Go Go.Va Go.Proofs
namespace F_ref10_Text
abbrev ia : List Ai := [.dat .str]
abbrev io : List (Nat × Oi) := [(2, .dat .str)]
abbrev R : Type := DOut ia io
noncomputable def X (n : Nat) : Ctx := ⟨⟨tab, [F_ref10_Num.en n], 0, []⟩, 9, bnOf 0 ia⟩
noncomputable def T : CT := .o
noncomputable def f (n : Nat) (s_ : ByteArray) : Option R := fRun (X n) n T Tryz.f72 ia io (s_, ())
theorem e0 (n : Nat) (s_ : ByteArray) : f n s_ =
  bnd (F_ref10_Num.f n (IntKind.u64.wrap (s_.size : Int))) fun u1 =>
  gIf (u1.1.size + s_.size ≤ 4611686018427387904) (
    some ((u1.1 ++ s_), ())
    ) := (hideF_eq _).trans (by kernel_rfl)
theorem phi (n : Nat) : ∀ e ∈ (X n).c.Φ, EntryOk Tryz.prog e := allE_cons (mkEntry_ok (F_ref10_Num.ok n)) (allE_nil)
theorem ok (n : Nat) : FnOk Tryz.prog 72 ia io (fRun (X n) n T Tryz.f72 ia io) := tree_ok mixed tabIs (phi n) Tryz.func72 (by kernel_rfl) rfl
noncomputable def en (n : Nat) : Entry := mkEntry 72 ia io (fRun (X n) n T Tryz.f72 ia io)
end F_ref10_Text
end Go.Proofs.YtcpkhpboemfglaaGreatDoor

namespace Go.Proofs.YtcpkhpboemfglaaGreatDoor
open Go Go.Va Go.Proofs
namespace F_ref14_num
abbrev ia : List Ai := [.dat (.int .i64)]
abbrev io : List (Nat × Oi) := [(2, .dat .str)]
abbrev R : Type := DOut ia io
noncomputable def X (n : Nat) : Ctx := ⟨⟨tab, [F_ref10_Num.en n], 0, []⟩, 6, bnOf 0 ia⟩
noncomputable def T : CT := .o
noncomputable def f (n : Nat) (n_ : Int) : Option R := fRun (X n) n T Tryz.f40 ia io (n_, ())
theorem e0 (n : Nat) (n_ : Int) : f n n_ =
  bnd (F_ref10_Num.f n (IntKind.u64.wrap n_)) fun u1 =>
  some (u1.1, ()) := (hideF_eq _).trans (by kernel_rfl)
theorem phi (n : Nat) : ∀ e ∈ (X n).c.Φ, EntryOk Tryz.prog e := allE_cons (mkEntry_ok (F_ref10_Num.ok n)) (allE_nil)
theorem ok (n : Nat) : FnOk Tryz.prog 40 ia io (fRun (X n) n T Tryz.f40 ia io) := tree_ok mixed tabIs (phi n) Tryz.func40 (by kernel_rfl) rfl
noncomputable def en (n : Nat) : Entry := mkEntry 40 ia io (fRun (X n) n T Tryz.f40 ia io)
end F_ref14_num
end Go.Proofs.YtcpkhpboemfglaaGreatDoor

namespace Go.Proofs.YtcpkhpboemfglaaGreatDoor
open Go Go.Va Go.Proofs
namespace F_ref14_PutLock
abbrev ia : List Ai := [.dat T_api_Lock]
abbrev io : List (Nat × Oi) := [(2, .dat .str)]
abbrev R : Type := DOut ia io
noncomputable def X (n : Nat) : Ctx := ⟨⟨tab, [F_ref14_num.en n, F_ref10_Flag.en n, F_ref10_Int.en n], 0, []⟩, 14, bnOf 0 ia⟩
noncomputable def T : CT := .o
noncomputable def f (n : Nat) (l : D_api_Lock) : Option R := fRun (X n) n T Tryz.f114 ia io (l, ())
theorem e0 (n : Nat) (l : D_api_Lock) : f n l =
  bnd (F_ref14_num.f n l.1) fun u1 =>
  bnd (F_ref10_Int.f n l.2.1) fun u2 =>
  gIf (u1.1.size + u2.1.size ≤ 4611686018427387904) (
    bnd (F_ref10_Flag.f n l.2.2.1) fun u3 =>
    gIf ((u1.1 ++ u2.1).size + u3.1.size ≤ 4611686018427387904) (
      some (((u1.1 ++ u2.1) ++ u3.1), ())
      )
    ) := (hideF_eq _).trans (by kernel_rfl)
theorem phi (n : Nat) : ∀ e ∈ (X n).c.Φ, EntryOk Tryz.prog e := allE_cons (mkEntry_ok (F_ref14_num.ok n)) (allE_cons (mkEntry_ok (F_ref10_Flag.ok n)) (allE_cons (mkEntry_ok (F_ref10_Int.ok n)) (allE_nil)))
theorem ok (n : Nat) : FnOk Tryz.prog 114 ia io (fRun (X n) n T Tryz.f114 ia io) := tree_ok mixed tabIs (phi n) Tryz.func114 (by kernel_rfl) rfl
noncomputable def en (n : Nat) : Entry := mkEntry 114 ia io (fRun (X n) n T Tryz.f114 ia io)
end F_ref14_PutLock
end Go.Proofs.YtcpkhpboemfglaaGreatDoor

namespace Go.Proofs.YtcpkhpboemfglaaGreatDoor
open Go Go.Va Go.Proofs
namespace F_ref14_PutTags
abbrev ia : List Ai := [.dat (.slice T_api_Tag)]
abbrev io : List (Nat × Oi) := [(2, .dat .str)]
abbrev R : Type := DOut ia io
noncomputable def X (n : Nat) : Ctx := ⟨⟨tab, [F_ref14_num.en n, F_ref10_Text.en n], 0, []⟩, 30, bnOf 0 ia⟩
abbrev g1 : List Si := [.dat 0 (.slice T_api_Tag), .dat 3 .str, .dat 4 (.int .i64)]
abbrev g2 : List Si := [.dat 3 .str]
noncomputable def T : CT := (.s .o (.s .o (.s (.s .o (.b (.l g1 .o))) (.r g2 .o))))
noncomputable def J1 (n : Nat) (m : Nat) : (List (D_api_Tag)) × ByteArray × Int × Unit → Option R := jL (X n) n T (bodyOf Tryz.f115) (endK ia io) g1 [1, 1, 0, 1, 0] [] m
noncomputable def J2 (n : Nat) : ByteArray × Unit → Option R := jR (X n) n T (bodyOf Tryz.f115) (endK ia io) g2 [1, 1, 1] []
noncomputable def f (n : Nat) (l : List (D_api_Tag)) : Option R := fRun (X n) n T Tryz.f115 ia io (l, ())
theorem e0 (n : Nat) (l : List (D_api_Tag)) : f n l =
  bnd (F_ref14_num.f n ((l.length : Nat) : Int)) fun u1 =>
  J1 n n (l, u1.1, 0, ()) := (hideF_eq _).trans (by kernel_rfl)
theorem e1 (n m : Nat) (l : List (D_api_Tag)) (s_ : ByteArray) (i : Int) : J1 n (m + 1) (l, s_, i, ()) =
  bIf ((hide (decide (i < ((l.length : Nat) : Int))))) (
    gIf (0 ≤ i ∧ i < ((l.length : Nat) : Int)) (
      bnd (F_ref10_Text.f n ((List.getD l i.toNat (Va.dflt T_api_Tag)).1)) fun u1 =>
      gIf (0 ≤ i ∧ i < ((l.length : Nat) : Int)) (
        bnd (F_ref10_Text.f n (((List.getD l i.toNat (Va.dflt T_api_Tag)).2).1)) fun u2 =>
        gIf (u1.1.size + u2.1.size ≤ 4611686018427387904) (
          gIf (s_.size + (u1.1 ++ u2.1).size ≤ 4611686018427387904) (
            J1 n m (l, (s_ ++ (u1.1 ++ u2.1)), (IntKind.i64.wrap (i + (1 : Int))), ())
            )
          )
        )
      )
    ) (
    J2 n (s_, ())
    ) := (hideF_eq _).trans (by kernel_rfl)
theorem e2 (n : Nat) (s_ : ByteArray) : J2 n (s_, ()) =
  some (s_, ()) := (hideF_eq _).trans (by kernel_rfl)
theorem phi (n : Nat) : ∀ e ∈ (X n).c.Φ, EntryOk Tryz.prog e := allE_cons (mkEntry_ok (F_ref14_num.ok n)) (allE_cons (mkEntry_ok (F_ref10_Text.ok n)) (allE_nil))
theorem ok (n : Nat) : FnOk Tryz.prog 115 ia io (fRun (X n) n T Tryz.f115 ia io) := tree_ok mixed tabIs (phi n) Tryz.func115 (by kernel_rfl) rfl
noncomputable def en (n : Nat) : Entry := mkEntry 115 ia io (fRun (X n) n T Tryz.f115 ia io)
end F_ref14_PutTags
end Go.Proofs.YtcpkhpboemfglaaGreatDoor

namespace Go.Proofs.YtcpkhpboemfglaaGreatDoor
open Go Go.Va Go.Proofs
namespace F_ref14_PutVersion
abbrev ia : List Ai := [.dat T_api_Version]
abbrev io : List (Nat × Oi) := [(2, .dat .str)]
abbrev R : Type := DOut ia io
noncomputable def X (n : Nat) : Ctx := ⟨⟨tab, [F_ref14_num.en n, F_ref10_Num.en n, F_ref10_Flag.en n, F_ref10_Int.en n, F_ref14_PutLock.en n, F_ref14_PutTags.en n, F_ref10_Digest.en n], 0, []⟩, 39, bnOf 0 ia⟩
noncomputable def T : CT := .o
noncomputable def f (n : Nat) (v_ : D_api_Version) : Option R := fRun (X n) n T Tryz.f91 ia io (v_, ())
theorem e0 (n : Nat) (v_ : D_api_Version) : f n v_ =
  bnd (F_ref10_Num.f n v_.1) fun u1 =>
  bnd (F_ref10_Flag.f n v_.2.1) fun u2 =>
  gIf (u1.1.size + u2.1.size ≤ 4611686018427387904) (
    bnd (F_ref10_Int.f n v_.2.2.2.2.2.1) fun u3 =>
    gIf ((u1.1 ++ u2.1).size + u3.1.size ≤ 4611686018427387904) (
      bIf (v_.2.1) (
        some (((u1.1 ++ u2.1) ++ u3.1), ())
        ) (
        bnd (F_ref14_num.f n v_.2.2.1) fun u4 =>
        gIf (((u1.1 ++ u2.1) ++ u3.1).size + u4.1.size ≤ 4611686018427387904) (
          bnd (F_ref10_Num.f n v_.2.2.2.1) fun u5 =>
          gIf ((((u1.1 ++ u2.1) ++ u3.1) ++ u4.1).size + u5.1.size ≤ 4611686018427387904) (
            bnd (F_ref10_Digest.f n v_.2.2.2.2.1) fun u6 =>
            gIf (((((u1.1 ++ u2.1) ++ u3.1) ++ u4.1) ++ u5.1).size + u6.1.size ≤ 4611686018427387904) (
              bnd (F_ref14_PutLock.f n v_.2.2.2.2.2.2.1) fun u7 =>
              gIf ((((((u1.1 ++ u2.1) ++ u3.1) ++ u4.1) ++ u5.1) ++ u6.1).size + u7.1.size ≤ 4611686018427387904) (
                bnd (F_ref14_PutTags.f n v_.2.2.2.2.2.2.2.1) fun u8 =>
                gIf (((((((u1.1 ++ u2.1) ++ u3.1) ++ u4.1) ++ u5.1) ++ u6.1) ++ u7.1).size + u8.1.size ≤ 4611686018427387904) (
                  some ((((((((u1.1 ++ u2.1) ++ u3.1) ++ u4.1) ++ u5.1) ++ u6.1) ++ u7.1) ++ u8.1), ())
                  )
                )
              )
            )
          )
        )
      )
    ) := (hideF_eq _).trans (by kernel_rfl)
theorem phi (n : Nat) : ∀ e ∈ (X n).c.Φ, EntryOk Tryz.prog e := allE_cons (mkEntry_ok (F_ref14_num.ok n)) (allE_cons (mkEntry_ok (F_ref10_Num.ok n)) (allE_cons (mkEntry_ok (F_ref10_Flag.ok n)) (allE_cons (mkEntry_ok (F_ref10_Int.ok n)) (allE_cons (mkEntry_ok (F_ref14_PutLock.ok n)) (allE_cons (mkEntry_ok (F_ref14_PutTags.ok n)) (allE_cons (mkEntry_ok (F_ref10_Digest.ok n)) (allE_nil)))))))
theorem ok (n : Nat) : FnOk Tryz.prog 91 ia io (fRun (X n) n T Tryz.f91 ia io) := tree_ok mixed tabIs (phi n) Tryz.func91 (by kernel_rfl) rfl
noncomputable def en (n : Nat) : Entry := mkEntry 91 ia io (fRun (X n) n T Tryz.f91 ia io)
end F_ref14_PutVersion
end Go.Proofs.YtcpkhpboemfglaaGreatDoor

namespace Go.Proofs.YtcpkhpboemfglaaGreatDoor
open Go Go.Va Go.Proofs
namespace F_slices_Clip_byte
abbrev ia : List Ai := [.dat (.slice (.int .u8))]
abbrev io : List (Nat × Oi) := [(2, .dat (.slice (.int .u8)))]
abbrev R : Type := DOut ia io
noncomputable def X (n : Nat) : Ctx := ⟨⟨tab, [], 0, []⟩, 9, bnOf 0 ia⟩
noncomputable def T : CT := .o
noncomputable def f (n : Nat) (s_ : List (Int)) : Option R := fRun (X n) n T Tryz.f111 ia io (s_, ())
theorem e0 (n : Nat) (s_ : List (Int)) : f n s_ =
  gIf (0 ≤ ((s_.length : Nat) : Int) ∧ ((s_.length : Nat) : Int) ≤ ((s_.length : Nat) : Int)) (
    gIf (0 ≤ (0 : Int) ∧ (0 : Int) ≤ ((s_.length : Nat) : Int)) (
      gIf (((s_.length : Nat) : Int) ≤ ((s_.length : Nat) : Int) ∧ ((s_.length : Nat) : Int) ≤ ((s_.length : Nat) : Int) ∧ true = true) (
        some (((s_.take (((s_.length : Nat) : Int).toNat)).drop 0), ())
        )
      )
    ) := (hideF_eq _).trans (by kernel_rfl)
theorem phi (n : Nat) : ∀ e ∈ (X n).c.Φ, EntryOk Tryz.prog e := allE_nil
theorem ok (n : Nat) : FnOk Tryz.prog 111 ia io (fRun (X n) n T Tryz.f111 ia io) := tree_ok mixed tabIs (phi n) Tryz.func111 (by kernel_rfl) rfl
noncomputable def en (n : Nat) : Entry := mkEntry 111 ia io (fRun (X n) n T Tryz.f111 ia io)
end F_slices_Clip_byte
end Go.Proofs.YtcpkhpboemfglaaGreatDoor

namespace Go.Proofs.YtcpkhpboemfglaaGreatDoor
open Go Go.Va Go.Proofs
namespace F_slices_Clone_byte
abbrev ia : List Ai := [.dat (.slice (.int .u8))]
abbrev io : List (Nat × Oi) := [(2, .val (.r 0 (.int .u8)))]
abbrev R : Type := DOut ia io
noncomputable def X (n : Nat) : Ctx := ⟨⟨tab, [], 0, []⟩, 8, bnOf 0 ia⟩
noncomputable def T : CT := .o
noncomputable def f (n : Nat) (s_ : List (Int)) : Option R := fRun (X n) n T Tryz.f112 ia io (s_, ())
theorem e0 (n : Nat) (s_ : List (Int)) : f n s_ =
  bIf ((s_.length == 0)) (
    bothC (
      some ([], ())
      ) (
      gIf ((([] : List (Int)).length + s_.length) * 1 ≤ 70368744177664) (
        some ((([] : List (Int)) ++ s_), ())
        )
      )
    ) (
    gIf ((([] : List (Int)).length + s_.length) * 1 ≤ 70368744177664) (
      some ((([] : List (Int)) ++ s_), ())
      )
    ) := (hideF_eq _).trans (by kernel_rfl)
theorem phi (n : Nat) : ∀ e ∈ (X n).c.Φ, EntryOk Tryz.prog e := allE_nil
theorem ok (n : Nat) : FnOk Tryz.prog 112 ia io (fRun (X n) n T Tryz.f112 ia io) := tree_ok mixed tabIs (phi n) Tryz.func112 (by kernel_rfl) rfl
noncomputable def en (n : Nat) : Entry := mkEntry 112 ia io (fRun (X n) n T Tryz.f112 ia io)
end F_slices_Clone_byte
end Go.Proofs.YtcpkhpboemfglaaGreatDoor

namespace Go.Proofs.YtcpkhpboemfglaaGreatDoor
open Go Go.Va Go.Proofs
namespace F_pack_Writer_Out
abbrev ia : List Ai := [.ptr (.p (.r 0 (.int .u8)) (.d .unit))]
abbrev io : List (Nat × Oi) := [(2, .dat (.slice (.int .u8)))]
abbrev R : Type := DOut ia io
noncomputable def X (n : Nat) : Ctx := ⟨⟨tab, [F_slices_Clip_byte.en n, F_slices_Clone_byte.en n], 0, []⟩, 11, bnOf 0 ia⟩
noncomputable def T : CT := .o
noncomputable def f (n : Nat) (w_ : D_pack_Writer) : Option R := fRun (X n) n T Tryz.f39 ia io (w_, ())
theorem e0 (n : Nat) (w_ : D_pack_Writer) : f n w_ =
  bIf ((hide false)) (
    some ([], (w_.1, w_.2), ())
    ) (
    bnd (F_slices_Clone_byte.f n w_.1) fun u1 =>
    bnd (F_slices_Clip_byte.f n u1.1) fun u2 =>
    some (u2.1, (w_.1, w_.2), ())
    ) := (hideF_eq _).trans (by kernel_rfl)
theorem phi (n : Nat) : ∀ e ∈ (X n).c.Φ, EntryOk Tryz.prog e := allE_cons (mkEntry_ok (F_slices_Clip_byte.ok n)) (allE_cons (mkEntry_ok (F_slices_Clone_byte.ok n)) (allE_nil))
theorem ok (n : Nat) : FnOk Tryz.prog 39 ia io (fRun (X n) n T Tryz.f39 ia io) := tree_ok mixed tabIs (phi n) Tryz.func39 (by kernel_rfl) rfl
noncomputable def en (n : Nat) : Entry := mkEntry 39 ia io (fRun (X n) n T Tryz.f39 ia io)
end F_pack_Writer_Out
end Go.Proofs.YtcpkhpboemfglaaGreatDoor

namespace Go.Proofs.YtcpkhpboemfglaaGreatDoor
open Go Go.Va Go.Proofs
namespace F_pack_Reader_fail
abbrev ia : List Ai := [.ptr (.d T_pack_Reader), .dat (.int .i64)]
abbrev io : List (Nat × Oi) := []
abbrev R : Type := DOut ia io
noncomputable def X (n : Nat) : Ctx := ⟨⟨tab, [], 0, []⟩, 13, bnOf 0 ia⟩
noncomputable def T : CT := .o
noncomputable def f (n : Nat) (r : D_pack_Reader) (e_ : Int) : Option R := fRun (X n) n T Tryz.f139 ia io (r, e_, ())
theorem e0 (n : Nat) (r : D_pack_Reader) (e_ : Int) : f n r e_ =
  bIf ((hide (r.2.1 == (0 : Int)))) (
    some ((r.1, (e_, r.2.2)), ())
    ) (
    some (r, ())
    ) := (hideF_eq _).trans (by kernel_rfl)
theorem phi (n : Nat) : ∀ e ∈ (X n).c.Φ, EntryOk Tryz.prog e := allE_nil
theorem ok (n : Nat) : FnOk Tryz.prog 139 ia io (fRun (X n) n T Tryz.f139 ia io) := tree_ok mixed tabIs (phi n) Tryz.func139 (by kernel_rfl) rfl
noncomputable def en (n : Nat) : Entry := mkEntry 139 ia io (fRun (X n) n T Tryz.f139 ia io)
end F_pack_Reader_fail
end Go.Proofs.YtcpkhpboemfglaaGreatDoor

namespace Go.Proofs.YtcpkhpboemfglaaGreatDoor
open Go Go.Va Go.Proofs
namespace F_pack_Reader_take
abbrev ia : List Ai := [.ptr (.d T_pack_Reader), .dat (.int .i64)]
abbrev io : List (Nat × Oi) := [(4, .dat (.slice (.int .u8)))]
abbrev R : Type := DOut ia io
noncomputable def X (n : Nat) : Ctx := ⟨⟨tab, [F_pack_Reader_fail.en n], 0, []⟩, 43, bnOf 0 ia⟩
abbrev g1 : List Si := [.ref 0 500000 T_pack_Reader, .dat 1 (.int .i64), .box 500000 (.d T_pack_Reader)]
noncomputable def T : CT := (.s .o (.s .o (.r g1 .o)))
noncomputable def J1 (n : Nat) : Int × D_pack_Reader × Unit → Option R := jR (X n) n T (bodyOf Tryz.f149) (endK ia io) g1 [1, 1] []
noncomputable def f (n : Nat) (r : D_pack_Reader) (n_ : Int) : Option R := fRun (X n) n T Tryz.f149 ia io (r, n_, ())
theorem e0 (n : Nat) (r : D_pack_Reader) (n_ : Int) : f n r n_ =
  bIf ((hide (r.2.1 == (0 : Int)))) (
    bIf ((hide (decide (n_ > ((r.1.length : Nat) : Int))))) (
      bnd (F_pack_Reader_fail.f n r 3) fun u1 =>
      J1 n (n_, u1.1, ())
      ) (
      J1 n (n_, r, ())
      )
    ) (
    J1 n (n_, r, ())
    ) := (hideF_eq _).trans (by kernel_rfl)
theorem e1 (n : Nat) (n_ : Int) (r : D_pack_Reader) : J1 n (n_, r, ()) =
  bIf ((hide (r.2.1 != (0 : Int)))) (
    some ([], r, ())
    ) (
    gIf (0 ≤ n_ ∧ n_ ≤ ((r.1.length : Nat) : Int)) (
      gIf (0 ≤ (0 : Int) ∧ (0 : Int) ≤ n_) (
        gIf (0 ≤ ((r.1.length : Nat) : Int) ∧ ((r.1.length : Nat) : Int) ≤ ((r.1.length : Nat) : Int)) (
          gIf (0 ≤ n_ ∧ n_ ≤ ((r.1.length : Nat) : Int)) (
            some (((r.1.take n_.toNat).drop 0), (((r.1.take ((((r.1.length : Nat) : Int)).toNat)).drop n_.toNat), r.2), ())
            )
          )
        )
      )
    ) := (hideF_eq _).trans (by kernel_rfl)
theorem phi (n : Nat) : ∀ e ∈ (X n).c.Φ, EntryOk Tryz.prog e := allE_cons (mkEntry_ok (F_pack_Reader_fail.ok n)) (allE_nil)
theorem ok (n : Nat) : FnOk Tryz.prog 149 ia io (fRun (X n) n T Tryz.f149 ia io) := tree_ok mixed tabIs (phi n) Tryz.func149 (by kernel_rfl) rfl
noncomputable def en (n : Nat) : Entry := mkEntry 149 ia io (fRun (X n) n T Tryz.f149 ia io)
end F_pack_Reader_take
end Go.Proofs.YtcpkhpboemfglaaGreatDoor

namespace Go.Proofs.YtcpkhpboemfglaaGreatDoor
open Go Go.Va Go.Proofs
namespace F_pack_Reader_Num
abbrev ia : List Ai := [.ptr (.d T_pack_Reader)]
abbrev io : List (Nat × Oi) := [(2, .dat (.int .u64))]
abbrev R : Type := DOut ia io
noncomputable def X (n : Nat) : Ctx := ⟨⟨tab, [F_pack_Reader_fail.en n, F_pack_Reader_take.en n, F_bits_Unpack.en n], 0, []⟩, 33, bnOf 0 ia⟩
abbrev g1 : List Si := [.ref 0 500000 T_pack_Reader, .box 500000 (.d T_pack_Reader)]
noncomputable def T : CT := (.s .o (.s .o (.r g1 .o)))
noncomputable def J1 (n : Nat) : D_pack_Reader × Unit → Option R := jR (X n) n T (bodyOf Tryz.f138) (endK ia io) g1 [1, 1] []
noncomputable def f (n : Nat) (r : D_pack_Reader) : Option R := fRun (X n) n T Tryz.f138 ia io (r, ())
theorem e0 (n : Nat) (r : D_pack_Reader) : f n r =
  bIf ((hide false)) (
    some (0, r, ())
    ) (
    bIf ((hide (r.2.1 != (0 : Int)))) (
      some (0, r, ())
      ) (
      J1 n (r, ())
      )
    ) := (hideF_eq _).trans (by kernel_rfl)
theorem e1 (n : Nat) (r : D_pack_Reader) : J1 n (r, ()) =
  bnd (F_bits_Unpack.f n r.1) fun u1 =>
  bIf ((hide (u1.2.2.1 != (0 : Int)))) (
    bnd (F_pack_Reader_fail.f n r u1.2.2.1) fun u2 =>
    some (0, u2.1, ())
    ) (
    bnd (F_pack_Reader_take.f n r u1.2.1) fun u3 =>
    some (u1.1, u3.2.1, ())
    ) := (hideF_eq _).trans (by kernel_rfl)
theorem phi (n : Nat) : ∀ e ∈ (X n).c.Φ, EntryOk Tryz.prog e := allE_cons (mkEntry_ok (F_pack_Reader_fail.ok n)) (allE_cons (mkEntry_ok (F_pack_Reader_take.ok n)) (allE_cons (mkEntry_ok (F_bits_Unpack.ok n)) (allE_nil)))
theorem ok (n : Nat) : FnOk Tryz.prog 138 ia io (fRun (X n) n T Tryz.f138 ia io) := tree_ok mixed tabIs (phi n) Tryz.func138 (by kernel_rfl) rfl
noncomputable def en (n : Nat) : Entry := mkEntry 138 ia io (fRun (X n) n T Tryz.f138 ia io)
end F_pack_Reader_Num
end Go.Proofs.YtcpkhpboemfglaaGreatDoor

namespace Go.Proofs.YtcpkhpboemfglaaGreatDoor
open Go Go.Va Go.Proofs
namespace F_pack_Reader_Count
abbrev ia : List Ai := [.ptr (.d T_pack_Reader), .dat (.int .i64)]
abbrev io : List (Nat × Oi) := [(4, .dat (.int .i64))]
abbrev R : Type := DOut ia io
noncomputable def X (n : Nat) : Ctx := ⟨⟨tab, [F_pack_Reader_Num.en n, F_pack_Reader_fail.en n], 0, []⟩, 29, bnOf 0 ia⟩
abbrev g1 : List Si := [.ref 0 500000 T_pack_Reader, .dat 1 (.int .i64), .dat 5 (.int .u64), .box 500000 (.d T_pack_Reader)]
abbrev g2 : List Si := [.ref 0 500000 T_pack_Reader, .dat 5 (.int .u64), .dat 24 .bool, .box 500000 (.d T_pack_Reader)]
abbrev g3 : List Si := [.dat 5 (.int .u64), .box 500000 (.d T_pack_Reader)]
noncomputable def T : CT := (.s .o (.s .o (.s .o (.r g1 (.s (.s .o (.r g2 .o)) (.r g3 .o))))))
noncomputable def J1 (n : Nat) : Int × Int × D_pack_Reader × Unit → Option R := jR (X n) n T (bodyOf Tryz.f66) (endK ia io) g1 [1, 1, 1] []
noncomputable def J2 (n : Nat) : Int × Bool × D_pack_Reader × Unit → Option R := jR (X n) n T (bodyOf Tryz.f66) (endK ia io) g2 [1, 1, 1, 0, 1] []
noncomputable def J3 (n : Nat) : Int × D_pack_Reader × Unit → Option R := jR (X n) n T (bodyOf Tryz.f66) (endK ia io) g3 [1, 1, 1, 1] []
noncomputable def f (n : Nat) (r : D_pack_Reader) (most : Int) : Option R := fRun (X n) n T Tryz.f66 ia io (r, most, ())
theorem e0 (n : Nat) (r : D_pack_Reader) (most : Int) : f n r most =
  bnd (F_pack_Reader_Num.f n r) fun u1 =>
  bIf ((hide false)) (
    some (0, u1.2.1, ())
    ) (
    bIf ((hide (u1.2.1.2.1 != (0 : Int)))) (
      some (0, u1.2.1, ())
      ) (
      J1 n (most, u1.1, u1.2.1, ())
      )
    ) := (hideF_eq _).trans (by kernel_rfl)
theorem e1 (n : Nat) (most : Int) (n_ : Int) (r : D_pack_Reader) : J1 n (most, n_, r, ()) =
  bIf ((hide (decide (most < (0 : Int))))) (
    J2 n (n_, true, r, ())
    ) (
    J2 n (n_, (hide (decide (n_ > (IntKind.u64.wrap most)))), r, ())
    ) := (hideF_eq _).trans (by kernel_rfl)
theorem e2 (n : Nat) (n_ : Int) (t24 : Bool) (r : D_pack_Reader) : J2 n (n_, t24, r, ()) =
  bIf (t24) (
    bnd (F_pack_Reader_fail.f n r 17) fun u1 =>
    some (0, u1.1, ())
    ) (
    J3 n (n_, r, ())
    ) := (hideF_eq _).trans (by kernel_rfl)
theorem e3 (n : Nat) (n_ : Int) (b500000 : D_pack_Reader) : J3 n (n_, b500000, ()) =
  some ((IntKind.i64.wrap n_), b500000, ()) := (hideF_eq _).trans (by kernel_rfl)
theorem phi (n : Nat) : ∀ e ∈ (X n).c.Φ, EntryOk Tryz.prog e := allE_cons (mkEntry_ok (F_pack_Reader_Num.ok n)) (allE_cons (mkEntry_ok (F_pack_Reader_fail.ok n)) (allE_nil))
theorem ok (n : Nat) : FnOk Tryz.prog 66 ia io (fRun (X n) n T Tryz.f66 ia io) := tree_ok mixed tabIs (phi n) Tryz.func66 (by kernel_rfl) rfl
noncomputable def en (n : Nat) : Entry := mkEntry 66 ia io (fRun (X n) n T Tryz.f66 ia io)
end F_pack_Reader_Count
end Go.Proofs.YtcpkhpboemfglaaGreatDoor

namespace Go.Proofs.YtcpkhpboemfglaaGreatDoor
open Go Go.Va Go.Proofs
namespace F_entry_Reader_Small
abbrev ia : List Ai := [.fn (.str 1) [(.d T_pack_Reader)]]
abbrev io : List (Nat × Oi) := [(2, .dat (.int .i64))]
abbrev R : Type := DOut ia io
noncomputable def X (n : Nat) : Ctx := ⟨⟨tab, [F_pack_Reader_Count.en n], 0, []⟩, 6, bnOf 0 ia⟩
noncomputable def T : CT := .o
noncomputable def f (n : Nat) (rc0 : D_pack_Reader) : Option R := fRun (X n) n T Tryz.f74 ia io (rc0, ())
theorem e0 (n : Nat) (rc0 : D_pack_Reader) : f n rc0 =
  bnd (F_pack_Reader_Count.f n rc0 1099511627776) fun u1 =>
  some (u1.1, u1.2.1, ()) := (hideF_eq _).trans (by kernel_rfl)
theorem phi (n : Nat) : ∀ e ∈ (X n).c.Φ, EntryOk Tryz.prog e := allE_cons (mkEntry_ok (F_pack_Reader_Count.ok n)) (allE_nil)
theorem ok (n : Nat) : FnOk Tryz.prog 74 ia io (fRun (X n) n T Tryz.f74 ia io) := tree_ok mixed tabIs (phi n) Tryz.func74 (by kernel_rfl) rfl
noncomputable def en (n : Nat) : Entry := mkEntry 74 ia io (fRun (X n) n T Tryz.f74 ia io)
end F_entry_Reader_Small
end Go.Proofs.YtcpkhpboemfglaaGreatDoor

namespace Go.Proofs.YtcpkhpboemfglaaGreatDoor
open Go Go.Va Go.Proofs
namespace F_pack_Reader_Digest
abbrev ia : List Ai := [.ptr (.d T_pack_Reader)]
abbrev io : List (Nat × Oi) := [(2, .cel (.d (.arr 32 (.int .u8))))]
abbrev R : Type := DOut ia io
noncomputable def X (n : Nat) : Ctx := ⟨⟨tab, [F_pack_Reader_take.en n], 0, []⟩, 11, bnOf 0 ia⟩
noncomputable def T : CT := .o
noncomputable def f (n : Nat) (r : D_pack_Reader) : Option R := fRun (X n) n T Tryz.f187 ia io (r, ())
theorem e0 (n : Nat) (r : D_pack_Reader) : f n r =
  bIf ((hide true)) (
    bnd (F_pack_Reader_take.f n r 32) fun u1 =>
    gIf (u1.1.length ≤ 32) (
      some ((u1.1 ++ List.drop u1.1.length (List.replicate 32 0)), u1.2.1, ())
      )
    ) (
    some ((List.replicate 32 0), r, ())
    ) := (hideF_eq _).trans (by kernel_rfl)
theorem phi (n : Nat) : ∀ e ∈ (X n).c.Φ, EntryOk Tryz.prog e := allE_cons (mkEntry_ok (F_pack_Reader_take.ok n)) (allE_nil)
theorem ok (n : Nat) : FnOk Tryz.prog 187 ia io (fRun (X n) n T Tryz.f187 ia io) := tree_ok mixed tabIs (phi n) Tryz.func187 (by kernel_rfl) rfl
noncomputable def en (n : Nat) : Entry := mkEntry 187 ia io (fRun (X n) n T Tryz.f187 ia io)
end F_pack_Reader_Digest
end Go.Proofs.YtcpkhpboemfglaaGreatDoor

namespace Go.Proofs.YtcpkhpboemfglaaGreatDoor
open Go Go.Va Go.Proofs
namespace F_pack_Reader_Flag
abbrev ia : List Ai := [.ptr (.d T_pack_Reader)]
abbrev io : List (Nat × Oi) := [(2, .dat .bool)]
abbrev R : Type := DOut ia io
noncomputable def X (n : Nat) : Ctx := ⟨⟨tab, [F_pack_Reader_fail.en n, F_pack_Reader_take.en n], 0, []⟩, 33, bnOf 0 ia⟩
abbrev g1 : List Si := [.ref 0 500000 T_pack_Reader, .dat 3 (.slice (.int .u8)), .box 500000 (.d T_pack_Reader)]
noncomputable def T : CT := (.s .o (.s .o (.s .o (.s .o (.r g1 .o)))))
noncomputable def J1 (n : Nat) : (List (Int)) × D_pack_Reader × Unit → Option R := jR (X n) n T (bodyOf Tryz.f170) (endK ia io) g1 [1, 1, 1, 1] []
noncomputable def f (n : Nat) (r : D_pack_Reader) : Option R := fRun (X n) n T Tryz.f170 ia io (r, ())
theorem e0 (n : Nat) (r : D_pack_Reader) : f n r =
  bIf ((hide false)) (
    some (false, r, ())
    ) (
    bnd (F_pack_Reader_take.f n r 1) fun u1 =>
    bIf ((hide (u1.2.1.2.1 == (0 : Int)))) (
      gIf (0 ≤ (0 : Int) ∧ (0 : Int) < ((u1.1.length : Nat) : Int)) (
        gNo ((1 : Int) < 0) (
          bIf ((hide ((shrI .u8 (List.getD u1.1 0 0) 1) != (0 : Int)))) (
            bnd (F_pack_Reader_fail.f n u1.2.1 2) fun u2 =>
            J1 n (u1.1, u2.1, ())
            ) (
            J1 n (u1.1, u1.2.1, ())
            )
          )
        )
      ) (
      J1 n (u1.1, u1.2.1, ())
      )
    ) := (hideF_eq _).trans (by kernel_rfl)
theorem e1 (n : Nat) (b : List (Int)) (r : D_pack_Reader) : J1 n (b, r, ()) =
  bIf ((hide (r.2.1 == (0 : Int)))) (
    gIf (0 ≤ (0 : Int) ∧ (0 : Int) < ((b.length : Nat) : Int)) (
      some ((hide ((List.getD b 0 0) == (1 : Int))), r, ())
      )
    ) (
    some (false, r, ())
    ) := (hideF_eq _).trans (by kernel_rfl)
theorem phi (n : Nat) : ∀ e ∈ (X n).c.Φ, EntryOk Tryz.prog e := allE_cons (mkEntry_ok (F_pack_Reader_fail.ok n)) (allE_cons (mkEntry_ok (F_pack_Reader_take.ok n)) (allE_nil))
theorem ok (n : Nat) : FnOk Tryz.prog 170 ia io (fRun (X n) n T Tryz.f170 ia io) := tree_ok mixed tabIs (phi n) Tryz.func170 (by kernel_rfl) rfl
noncomputable def en (n : Nat) : Entry := mkEntry 170 ia io (fRun (X n) n T Tryz.f170 ia io)
end F_pack_Reader_Flag
end Go.Proofs.YtcpkhpboemfglaaGreatDoor

namespace Go.Proofs.YtcpkhpboemfglaaGreatDoor
open Go Go.Va Go.Proofs
namespace F_pack_Reader_Int
abbrev ia : List Ai := [.ptr (.d T_pack_Reader)]
abbrev io : List (Nat × Oi) := [(2, .dat (.int .i64))]
abbrev R : Type := DOut ia io
noncomputable def X (n : Nat) : Ctx := ⟨⟨tab, [F_pack_Reader_Num.en n, F_bits_Zag.en n], 0, []⟩, 6, bnOf 0 ia⟩
noncomputable def T : CT := .o
noncomputable def f (n : Nat) (r : D_pack_Reader) : Option R := fRun (X n) n T Tryz.f140 ia io (r, ())
theorem e0 (n : Nat) (r : D_pack_Reader) : f n r =
  bnd (F_pack_Reader_Num.f n r) fun u1 =>
  bnd (F_bits_Zag.f n u1.1) fun u2 =>
  some (u2.1, u1.2.1, ()) := (hideF_eq _).trans (by kernel_rfl)
theorem phi (n : Nat) : ∀ e ∈ (X n).c.Φ, EntryOk Tryz.prog e := allE_cons (mkEntry_ok (F_pack_Reader_Num.ok n)) (allE_cons (mkEntry_ok (F_bits_Zag.ok n)) (allE_nil))
theorem ok (n : Nat) : FnOk Tryz.prog 140 ia io (fRun (X n) n T Tryz.f140 ia io) := tree_ok mixed tabIs (phi n) Tryz.func140 (by kernel_rfl) rfl
noncomputable def en (n : Nat) : Entry := mkEntry 140 ia io (fRun (X n) n T Tryz.f140 ia io)
end F_pack_Reader_Int
end Go.Proofs.YtcpkhpboemfglaaGreatDoor

namespace Go.Proofs.YtcpkhpboemfglaaGreatDoor
open Go Go.Va Go.Proofs
namespace F_pack_Reader_Text
abbrev ia : List Ai := [.ptr (.d T_pack_Reader)]
abbrev io : List (Nat × Oi) := [(2, .dat .str)]
abbrev R : Type := DOut ia io
noncomputable def X (n : Nat) : Ctx := ⟨⟨tab, [F_pack_Reader_Count.en n, F_pack_Reader_take.en n], 0, []⟩, 12, bnOf 0 ia⟩
noncomputable def T : CT := .o
noncomputable def f (n : Nat) (r : D_pack_Reader) : Option R := fRun (X n) n T Tryz.f75 ia io (r, ())
theorem e0 (n : Nat) (r : D_pack_Reader) : f n r =
  bnd (F_pack_Reader_Count.f n r 16384) fun u1 =>
  bIf ((hide false)) (
    some ((⟨#[]⟩ : ByteArray), u1.2.1, ())
    ) (
    bnd (F_pack_Reader_take.f n u1.2.1 u1.1) fun u2 =>
    some ((bytesOf u2.1), u2.2.1, ())
    ) := (hideF_eq _).trans (by kernel_rfl)
theorem phi (n : Nat) : ∀ e ∈ (X n).c.Φ, EntryOk Tryz.prog e := allE_cons (mkEntry_ok (F_pack_Reader_Count.ok n)) (allE_cons (mkEntry_ok (F_pack_Reader_take.ok n)) (allE_nil))
theorem ok (n : Nat) : FnOk Tryz.prog 75 ia io (fRun (X n) n T Tryz.f75 ia io) := tree_ok mixed tabIs (phi n) Tryz.func75 (by kernel_rfl) rfl
noncomputable def en (n : Nat) : Entry := mkEntry 75 ia io (fRun (X n) n T Tryz.f75 ia io)
end F_pack_Reader_Text
end Go.Proofs.YtcpkhpboemfglaaGreatDoor

namespace Go.Proofs.YtcpkhpboemfglaaGreatDoor
open Go Go.Va Go.Proofs
namespace F_entry_Reader_Lock
abbrev ia : List Ai := [.fn (.str 1) [(.d T_pack_Reader)]]
abbrev io : List (Nat × Oi) := [(2, .cel (.d T_api_Lock))]
abbrev R : Type := DOut ia io
noncomputable def X (n : Nat) : Ctx := ⟨⟨tab, [F_entry_Reader_Small.en n, F_pack_Reader_Int.en n, F_pack_Reader_Flag.en n], 0, []⟩, 16, bnOf 0 ia⟩
noncomputable def T : CT := .o
noncomputable def f (n : Nat) (rc0 : D_pack_Reader) : Option R := fRun (X n) n T Tryz.f145 ia io (rc0, ())
theorem e0 (n : Nat) (rc0 : D_pack_Reader) : f n rc0 =
  bnd (F_entry_Reader_Small.f n rc0) fun u1 =>
  bnd (F_pack_Reader_Int.f n u1.2.1) fun u2 =>
  bnd (F_pack_Reader_Flag.f n u2.2.1) fun u3 =>
  some ((u1.1, (u2.1, (u3.1, ()))), u3.2.1, ()) := (hideF_eq _).trans (by kernel_rfl)
theorem phi (n : Nat) : ∀ e ∈ (X n).c.Φ, EntryOk Tryz.prog e := allE_cons (mkEntry_ok (F_entry_Reader_Small.ok n)) (allE_cons (mkEntry_ok (F_pack_Reader_Int.ok n)) (allE_cons (mkEntry_ok (F_pack_Reader_Flag.ok n)) (allE_nil)))
theorem ok (n : Nat) : FnOk Tryz.prog 145 ia io (fRun (X n) n T Tryz.f145 ia io) := tree_ok mixed tabIs (phi n) Tryz.func145 (by kernel_rfl) rfl
noncomputable def en (n : Nat) : Entry := mkEntry 145 ia io (fRun (X n) n T Tryz.f145 ia io)
end F_entry_Reader_Lock
end Go.Proofs.YtcpkhpboemfglaaGreatDoor

namespace Go.Proofs.YtcpkhpboemfglaaGreatDoor
open Go Go.Va Go.Proofs
namespace F_entry_Reader_Tags
abbrev ia : List Ai := [.fn (.str 1) [(.d T_pack_Reader)]]
abbrev io : List (Nat × Oi) := [(2, .val (.r 0 T_api_Tag))]
abbrev R : Type := DOut ia io
noncomputable def X (n : Nat) : Ctx := ⟨⟨tab, [F_pack_Reader_Count.en n, F_pack_Reader_Text.en n], 0, []⟩, 23, bnOf 0 ia⟩
abbrev g1 : List Si := [.ref 1 1 T_entry_Reader, .val 3 (.r 200300 T_api_Tag), .dat 7 (.int .i64), .dat 8 (.int .i64), .box 1 (.p (.al 500000 T_pack_Reader) (.d .unit)), .box 500000 (.d T_pack_Reader)]
abbrev g2 : List Si := [.val 3 (.r 200300 T_api_Tag), .box 500000 (.d T_pack_Reader)]
noncomputable def T : CT := (.s .o (.s .o (.s (.s .o (.b (.l g1 .o))) (.r g2 .o))))
noncomputable def J1 (n : Nat) (m : Nat) : (List (D_api_Tag)) × Int × Int × D_entry_Reader × D_pack_Reader × Unit → Option R := jL (X n) n T (bodyOf Tryz.f146) (endK ia io) g1 [1, 1, 0, 1, 0] [] m
noncomputable def J2 (n : Nat) : (List (D_api_Tag)) × D_pack_Reader × Unit → Option R := jR (X n) n T (bodyOf Tryz.f146) (endK ia io) g2 [1, 1, 1] []
noncomputable def f (n : Nat) (rc0 : D_pack_Reader) : Option R := fRun (X n) n T Tryz.f146 ia io (rc0, ())
theorem e0 (n : Nat) (rc0 : D_pack_Reader) : f n rc0 =
  bnd (F_pack_Reader_Count.f n rc0 8) fun u1 =>
  J1 n n ([], u1.1, 0, ((), ()), u1.2.1, ()) := (hideF_eq _).trans (by kernel_rfl)
theorem e1 (n m : Nat) (out : List (D_api_Tag)) (t7 : Int) (t8 : Int) (r : D_entry_Reader) (b500000 : D_pack_Reader) : J1 n (m + 1) (out, t7, t8, r, b500000, ()) =
  bIf ((hide (decide (t8 < t7)))) (
    bnd (F_pack_Reader_Text.f n b500000) fun u1 =>
    bnd (F_pack_Reader_Text.f n u1.2.1) fun u2 =>
    gIf ((out.length + 1) * 32 ≤ 70368744177664) (
      J1 n m ((out ++ ([(u1.1, (u2.1, ()))] : List (D_api_Tag))), t7, (IntKind.i64.wrap (t8 + (1 : Int))), ((), r.2), u2.2.1, ())
      )
    ) (
    J2 n (out, b500000, ())
    ) := (hideF_eq _).trans (by kernel_rfl)
theorem e2 (n : Nat) (out : List (D_api_Tag)) (b500000 : D_pack_Reader) : J2 n (out, b500000, ()) =
  some (out, b500000, ()) := (hideF_eq _).trans (by kernel_rfl)
theorem phi (n : Nat) : ∀ e ∈ (X n).c.Φ, EntryOk Tryz.prog e := allE_cons (mkEntry_ok (F_pack_Reader_Count.ok n)) (allE_cons (mkEntry_ok (F_pack_Reader_Text.ok n)) (allE_nil))
theorem ok (n : Nat) : FnOk Tryz.prog 146 ia io (fRun (X n) n T Tryz.f146 ia io) := tree_ok mixed tabIs (phi n) Tryz.func146 (by kernel_rfl) rfl
noncomputable def en (n : Nat) : Entry := mkEntry 146 ia io (fRun (X n) n T Tryz.f146 ia io)
end F_entry_Reader_Tags
end Go.Proofs.YtcpkhpboemfglaaGreatDoor

namespace Go.Proofs.YtcpkhpboemfglaaGreatDoor
open Go Go.Va Go.Proofs
namespace F_entry_Reader_Version
abbrev ia : List Ai := [.fn (.str 1) [(.d T_pack_Reader)]]
abbrev io : List (Nat × Oi) := [(2, .cel (.p (.d (.int .u64)) (.p (.d .bool) (.p (.d (.int .i64)) (.p (.d (.int .u64)) (.p (.d (.arr 32 (.int .u8))) (.p (.d (.int .i64)) (.p (.d T_api_Lock) (.p (.r 0 T_api_Tag) (.d .unit))))))))))]
abbrev R : Type := DOut ia io
noncomputable def X (n : Nat) : Ctx := ⟨⟨tab, [F_entry_Reader_Small.en n, F_pack_Reader_Num.en n, F_pack_Reader_Int.en n, F_entry_Reader_Lock.en n, F_entry_Reader_Tags.en n, F_pack_Reader_Flag.en n, F_pack_Reader_Digest.en n], 0, []⟩, 37, bnOf 0 ia⟩
noncomputable def T : CT := .o
noncomputable def f (n : Nat) (rc0 : D_pack_Reader) : Option R := fRun (X n) n T Tryz.f144 ia io (rc0, ())
theorem e0 (n : Nat) (rc0 : D_pack_Reader) : f n rc0 =
  bnd (F_pack_Reader_Num.f n rc0) fun u1 =>
  bnd (F_pack_Reader_Flag.f n u1.2.1) fun u2 =>
  bnd (F_pack_Reader_Int.f n u2.2.1) fun u3 =>
  bIf (u2.1) (
    some ((u1.1, (u2.1, (0, (0, ((List.replicate 32 0), (u3.1, ((0, (0, (false, ()))), ([], ())))))))), u3.2.1, ())
    ) (
    bnd (F_entry_Reader_Small.f n u3.2.1) fun u4 =>
    bnd (F_pack_Reader_Num.f n u4.2.1) fun u5 =>
    bnd (F_pack_Reader_Digest.f n u5.2.1) fun u6 =>
    bnd (F_entry_Reader_Lock.f n u6.2.1) fun u7 =>
    bnd (F_entry_Reader_Tags.f n u7.2.1) fun u8 =>
    some ((u1.1, (u2.1, (u4.1, (u5.1, (u6.1, (u3.1, (u7.1, (u8.1, ())))))))), u8.2.1, ())
    ) := (hideF_eq _).trans (by kernel_rfl)
theorem phi (n : Nat) : ∀ e ∈ (X n).c.Φ, EntryOk Tryz.prog e := allE_cons (mkEntry_ok (F_entry_Reader_Small.ok n)) (allE_cons (mkEntry_ok (F_pack_Reader_Num.ok n)) (allE_cons (mkEntry_ok (F_pack_Reader_Int.ok n)) (allE_cons (mkEntry_ok (F_entry_Reader_Lock.ok n)) (allE_cons (mkEntry_ok (F_entry_Reader_Tags.ok n)) (allE_cons (mkEntry_ok (F_pack_Reader_Flag.ok n)) (allE_cons (mkEntry_ok (F_pack_Reader_Digest.ok n)) (allE_nil)))))))
theorem ok (n : Nat) : FnOk Tryz.prog 144 ia io (fRun (X n) n T Tryz.f144 ia io) := tree_ok mixed tabIs (phi n) Tryz.func144 (by kernel_rfl) rfl
noncomputable def en (n : Nat) : Entry := mkEntry 144 ia io (fRun (X n) n T Tryz.f144 ia io)
end F_entry_Reader_Version
end Go.Proofs.YtcpkhpboemfglaaGreatDoor

namespace Go.Proofs.YtcpkhpboemfglaaGreatDoor
open Go Go.Va Go.Proofs
namespace F_pack_Reader_Error
abbrev ia : List Ai := [.ptr (.d T_pack_Reader)]
abbrev io : List (Nat × Oi) := [(2, .dat (.int .i64))]
abbrev R : Type := DOut ia io
noncomputable def X (n : Nat) : Ctx := ⟨⟨tab, [], 0, []⟩, 9, bnOf 0 ia⟩
noncomputable def T : CT := .o
noncomputable def f (n : Nat) (r : D_pack_Reader) : Option R := fRun (X n) n T Tryz.f148 ia io (r, ())
theorem e0 (n : Nat) (r : D_pack_Reader) : f n r =
  bIf ((hide false)) (
    some (1, r, ())
    ) (
    some (r.2.1, r, ())
    ) := (hideF_eq _).trans (by kernel_rfl)
theorem phi (n : Nat) : ∀ e ∈ (X n).c.Φ, EntryOk Tryz.prog e := allE_nil
theorem ok (n : Nat) : FnOk Tryz.prog 148 ia io (fRun (X n) n T Tryz.f148 ia io) := tree_ok mixed tabIs (phi n) Tryz.func148 (by kernel_rfl) rfl
noncomputable def en (n : Nat) : Entry := mkEntry 148 ia io (fRun (X n) n T Tryz.f148 ia io)
end F_pack_Reader_Error
end Go.Proofs.YtcpkhpboemfglaaGreatDoor

namespace Go.Proofs.YtcpkhpboemfglaaGreatDoor
open Go Go.Va Go.Proofs
namespace F_pack_Reader_End
abbrev ia : List Ai := [.ptr (.d T_pack_Reader)]
abbrev io : List (Nat × Oi) := [(2, .dat (.int .i64))]
abbrev R : Type := DOut ia io
noncomputable def X (n : Nat) : Ctx := ⟨⟨tab, [F_pack_Reader_fail.en n, F_pack_Reader_Error.en n], 0, []⟩, 24, bnOf 0 ia⟩
abbrev g1 : List Si := [.ref 0 500000 T_pack_Reader, .box 500000 (.d T_pack_Reader)]
noncomputable def T : CT := (.s .o (.s .o (.r g1 .o)))
noncomputable def J1 (n : Nat) : D_pack_Reader × Unit → Option R := jR (X n) n T (bodyOf Tryz.f68) (endK ia io) g1 [1, 1] []
noncomputable def f (n : Nat) (r : D_pack_Reader) : Option R := fRun (X n) n T Tryz.f68 ia io (r, ())
theorem e0 (n : Nat) (r : D_pack_Reader) : f n r =
  bIf ((hide true)) (
    bIf ((hide (r.2.1 == (0 : Int)))) (
      bIf ((hide (decide (((r.1.length : Nat) : Int) > (0 : Int))))) (
        bnd (F_pack_Reader_fail.f n r 2) fun u1 =>
        J1 n (u1.1, ())
        ) (
        J1 n (r, ())
        )
      ) (
      J1 n (r, ())
      )
    ) (
    J1 n (r, ())
    ) := (hideF_eq _).trans (by kernel_rfl)
theorem e1 (n : Nat) (r : D_pack_Reader) : J1 n (r, ()) =
  bnd (F_pack_Reader_Error.f n r) fun u1 =>
  some (u1.1, u1.2.1, ()) := (hideF_eq _).trans (by kernel_rfl)
theorem phi (n : Nat) : ∀ e ∈ (X n).c.Φ, EntryOk Tryz.prog e := allE_cons (mkEntry_ok (F_pack_Reader_fail.ok n)) (allE_cons (mkEntry_ok (F_pack_Reader_Error.ok n)) (allE_nil))
theorem ok (n : Nat) : FnOk Tryz.prog 68 ia io (fRun (X n) n T Tryz.f68 ia io) := tree_ok mixed tabIs (phi n) Tryz.func68 (by kernel_rfl) rfl
noncomputable def en (n : Nat) : Entry := mkEntry 68 ia io (fRun (X n) n T Tryz.f68 ia io)
end F_pack_Reader_End
end Go.Proofs.YtcpkhpboemfglaaGreatDoor

namespace Go.Proofs.YtcpkhpboemfglaaGreatDoor
open Go Go.Va Go.Proofs
namespace F_acts_anywhere
abbrev ia : List Ai := [.dat (.int .i64)]
abbrev io : List (Nat × Oi) := [(2, .dat .bool)]
abbrev R : Type := DOut ia io
noncomputable def X (n : Nat) : Ctx := ⟨⟨tab, [], 0, []⟩, 9, bnOf 0 ia⟩
noncomputable def T : CT := .o
noncomputable def f (n : Nat) (kind : Int) : Option R := fRun (X n) n T Tryz.f166 ia io (kind, ())
theorem e0 (n : Nat) (kind : Int) : f n kind =
  bIf ((hide (kind == (21 : Int)))) (
    some (true, ())
    ) (
    some ((hide (kind == (22 : Int))), ())
    ) := (hideF_eq _).trans (by kernel_rfl)
theorem phi (n : Nat) : ∀ e ∈ (X n).c.Φ, EntryOk Tryz.prog e := allE_nil
theorem ok (n : Nat) : FnOk Tryz.prog 166 ia io (fRun (X n) n T Tryz.f166 ia io) := tree_ok mixed tabIs (phi n) Tryz.func166 (by kernel_rfl) rfl
noncomputable def en (n : Nat) : Entry := mkEntry 166 ia io (fRun (X n) n T Tryz.f166 ia io)
end F_acts_anywhere
end Go.Proofs.YtcpkhpboemfglaaGreatDoor

namespace Go.Proofs.YtcpkhpboemfglaaGreatDoor
open Go Go.Va Go.Proofs
namespace F_acts_bare
abbrev ia : List Ai := [.dat T_api_Request]
abbrev io : List (Nat × Oi) := [(2, .dat .bool)]
abbrev R : Type := DOut ia io
noncomputable def X (n : Nat) : Ctx := ⟨⟨tab, [], 0, []⟩, 89, bnOf 0 ia⟩
noncomputable def T : CT := .o
noncomputable def f (n : Nat) (r : D_api_Request) : Option R := fRun (X n) n T Tryz.f168 ia io (r, ())
theorem e0 (n : Nat) (r : D_api_Request) : f n r =
  bIf ((hide (eqS r.2.2.2.1 (⟨#[]⟩ : ByteArray)))) (
    bIf ((hide (r.2.2.2.2.1 == (0 : Int)))) (
      bIf ((hide (((r.2.2.2.2.2.1.length : Nat) : Int) == (0 : Int)))) (
        bIf ((hide (((r.2.2.2.2.2.2.1.length : Nat) : Int) == (0 : Int)))) (
          bIf ((hide (eqD T_api_Lock r.2.2.2.2.2.2.2.1 (0, (0, (false, ())))))) (
            bIf ((!r.2.2.2.2.2.2.2.2.1)) (
              bIf ((hide (eqD T_api_Default r.2.2.2.2.2.2.2.2.2.1 (0, (0, ()))))) (
                bIf ((hide (((r.2.2.2.2.2.2.2.2.2.2.1.length : Nat) : Int) == (0 : Int)))) (
                  bIf ((hide (((r.2.2.2.2.2.2.2.2.2.2.2.1.length : Nat) : Int) == (0 : Int)))) (
                    bIf ((hide (r.2.2.2.2.2.2.2.2.2.2.2.2.1 == (0 : Int)))) (
                      bIf ((hide (((r.2.2.2.2.2.2.2.2.2.2.2.2.2.1.length : Nat) : Int) == (0 : Int)))) (
                        bIf ((hide (eqS r.2.2.2.2.2.2.2.2.2.2.2.2.2.2.1 (⟨#[]⟩ : ByteArray)))) (
                          bIf ((hide (eqS r.2.2.2.2.2.2.2.2.2.2.2.2.2.2.2.1 (⟨#[]⟩ : ByteArray)))) (
                            bIf ((hide (eqS r.2.2.2.2.2.2.2.2.2.2.2.2.2.2.2.2.1 (⟨#[]⟩ : ByteArray)))) (
                              bIf ((hide (eqD T_api_Spot r.2.2.2.2.2.2.2.2.2.2.2.2.2.2.2.2.2.1 ((⟨#[]⟩ : ByteArray), ((⟨#[]⟩ : ByteArray), (0, ())))))) (
                                some ((hide (r.2.2.2.2.2.2.2.2.2.2.2.2.2.2.2.2.2.2.1 == (0 : Int))), ())
                                ) (
                                some (false, ())
                                )
                              ) (
                              some (false, ())
                              )
                            ) (
                            some (false, ())
                            )
                          ) (
                          some (false, ())
                          )
                        ) (
                        some (false, ())
                        )
                      ) (
                      some (false, ())
                      )
                    ) (
                    some (false, ())
                    )
                  ) (
                  some (false, ())
                  )
                ) (
                some (false, ())
                )
              ) (
              some (false, ())
              )
            ) (
            some (false, ())
            )
          ) (
          some (false, ())
          )
        ) (
        some (false, ())
        )
      ) (
      some (false, ())
      )
    ) (
    some (false, ())
    ) := (hideF_eq _).trans (by kernel_rfl)
theorem phi (n : Nat) : ∀ e ∈ (X n).c.Φ, EntryOk Tryz.prog e := allE_nil
theorem ok (n : Nat) : FnOk Tryz.prog 168 ia io (fRun (X n) n T Tryz.f168 ia io) := tree_ok mixed tabIs (phi n) Tryz.func168 (by kernel_rfl) rfl
noncomputable def en (n : Nat) : Entry := mkEntry 168 ia io (fRun (X n) n T Tryz.f168 ia io)
end F_acts_bare
end Go.Proofs.YtcpkhpboemfglaaGreatDoor

namespace Go.Proofs.YtcpkhpboemfglaaGreatDoor
open Go Go.Va Go.Proofs
namespace F_acts_name
abbrev ia : List Ai := [.dat .str]
abbrev io : List (Nat × Oi) := [(2, .dat .bool)]
abbrev R : Type := DOut ia io
noncomputable def X (n : Nat) : Ctx := ⟨⟨tab, [F_label_Clean.en n], 0, []⟩, 10, bnOf 0 ia⟩
noncomputable def T : CT := .o
noncomputable def f (n : Nat) (s_ : ByteArray) : Option R := fRun (X n) n T Tryz.f201 ia io (s_, ())
theorem e0 (n : Nat) (s_ : ByteArray) : f n s_ =
  bIf ((hide (decide ((s_.size : Int) ≤ (200 : Int))))) (
    bnd (F_label_Clean.f n s_) fun u1 =>
    some (u1.1, ())
    ) (
    some (false, ())
    ) := (hideF_eq _).trans (by kernel_rfl)
theorem phi (n : Nat) : ∀ e ∈ (X n).c.Φ, EntryOk Tryz.prog e := allE_cons (mkEntry_ok (F_label_Clean.ok n)) (allE_nil)
theorem ok (n : Nat) : FnOk Tryz.prog 201 ia io (fRun (X n) n T Tryz.f201 ia io) := tree_ok mixed tabIs (phi n) Tryz.func201 (by kernel_rfl) rfl
noncomputable def en (n : Nat) : Entry := mkEntry 201 ia io (fRun (X n) n T Tryz.f201 ia io)
end F_acts_name
end Go.Proofs.YtcpkhpboemfglaaGreatDoor

namespace Go.Proofs.YtcpkhpboemfglaaGreatDoor
open Go Go.Va Go.Proofs
namespace F_acts_strip_may
abbrev ia : List Ai := [.ptr (.d T_acts_strip), .dat .bool]
abbrev io : List (Nat × Oi) := [(4, .arg 0 500000 (.d T_acts_strip))]
abbrev R : Type := DOut ia io
noncomputable def X (n : Nat) : Ctx := ⟨⟨tab, [], 0, []⟩, 16, bnOf 0 ia⟩
noncomputable def T : CT := .o
noncomputable def f (n : Nat) (s_ : D_acts_strip) (ok_ : Bool) : Option R := fRun (X n) n T Tryz.f193 ia io (s_, ok_, ())
theorem e0 (n : Nat) (s_ : D_acts_strip) (ok_ : Bool) : f n s_ ok_ =
  bIf (s_.2.1) (
    some ((s_.1, (ok_, s_.2.2)), ())
    ) (
    some ((s_.1, (false, s_.2.2)), ())
    ) := (hideF_eq _).trans (by kernel_rfl)
theorem phi (n : Nat) : ∀ e ∈ (X n).c.Φ, EntryOk Tryz.prog e := allE_nil
theorem ok (n : Nat) : FnOk Tryz.prog 193 ia io (fRun (X n) n T Tryz.f193 ia io) := tree_ok mixed tabIs (phi n) Tryz.func193 (by kernel_rfl) rfl
noncomputable def en (n : Nat) : Entry := mkEntry 193 ia io (fRun (X n) n T Tryz.f193 ia io)
end F_acts_strip_may
end Go.Proofs.YtcpkhpboemfglaaGreatDoor

namespace Go.Proofs.YtcpkhpboemfglaaGreatDoor
open Go Go.Va Go.Proofs
namespace F_acts_strip_body
abbrev ia : List Ai := [.ptr (.d T_acts_strip)]
abbrev io : List (Nat × Oi) := [(2, .arg 0 500000 (.d T_acts_strip))]
abbrev R : Type := DOut ia io
noncomputable def X (n : Nat) : Ctx := ⟨⟨tab, [F_acts_strip_may.en n], 0, []⟩, 16, bnOf 0 ia⟩
noncomputable def T : CT := .o
noncomputable def f (n : Nat) (s_ : D_acts_strip) : Option R := fRun (X n) n T Tryz.f195 ia io (s_, ())
theorem e0 (n : Nat) (s_ : D_acts_strip) : f n s_ =
  bnd (F_acts_strip_may.f n s_ (hide (decide (((s_.1.2.2.2.2.2.1.length : Nat) : Int) ≤ (1024 : Int))))) fun u1 =>
  some (((u1.1.1.1, (u1.1.1.2.1, (u1.1.1.2.2.1, (u1.1.1.2.2.2.1, (u1.1.1.2.2.2.2.1, ([], u1.1.1.2.2.2.2.2.2)))))), u1.1.2), ()) := (hideF_eq _).trans (by kernel_rfl)
theorem phi (n : Nat) : ∀ e ∈ (X n).c.Φ, EntryOk Tryz.prog e := allE_cons (mkEntry_ok (F_acts_strip_may.ok n)) (allE_nil)
theorem ok (n : Nat) : FnOk Tryz.prog 195 ia io (fRun (X n) n T Tryz.f195 ia io) := tree_ok mixed tabIs (phi n) Tryz.func195 (by kernel_rfl) rfl
noncomputable def en (n : Nat) : Entry := mkEntry 195 ia io (fRun (X n) n T Tryz.f195 ia io)
end F_acts_strip_body
end Go.Proofs.YtcpkhpboemfglaaGreatDoor

namespace Go.Proofs.YtcpkhpboemfglaaGreatDoor
open Go Go.Va Go.Proofs
namespace F_acts_strip_bypass
abbrev ia : List Ai := [.ptr (.d T_acts_strip)]
abbrev io : List (Nat × Oi) := [(2, .arg 0 500000 (.d T_acts_strip))]
abbrev R : Type := DOut ia io
noncomputable def X (n : Nat) : Ctx := ⟨⟨tab, [], 0, []⟩, 8, bnOf 0 ia⟩
noncomputable def T : CT := .o
noncomputable def f (n : Nat) (s_ : D_acts_strip) : Option R := fRun (X n) n T Tryz.f199 ia io (s_, ())
theorem e0 (n : Nat) (s_ : D_acts_strip) : f n s_ =
  some (((s_.1.1, (s_.1.2.1, (s_.1.2.2.1, (s_.1.2.2.2.1, (s_.1.2.2.2.2.1, (s_.1.2.2.2.2.2.1, (s_.1.2.2.2.2.2.2.1, (s_.1.2.2.2.2.2.2.2.1, (false, s_.1.2.2.2.2.2.2.2.2.2))))))))), s_.2), ()) := (hideF_eq _).trans (by kernel_rfl)
theorem phi (n : Nat) : ∀ e ∈ (X n).c.Φ, EntryOk Tryz.prog e := allE_nil
theorem ok (n : Nat) : FnOk Tryz.prog 199 ia io (fRun (X n) n T Tryz.f199 ia io) := tree_ok mixed tabIs (phi n) Tryz.func199 (by kernel_rfl) rfl
noncomputable def en (n : Nat) : Entry := mkEntry 199 ia io (fRun (X n) n T Tryz.f199 ia io)
end F_acts_strip_bypass
end Go.Proofs.YtcpkhpboemfglaaGreatDoor

namespace Go.Proofs.YtcpkhpboemfglaaGreatDoor
open Go Go.Va Go.Proofs
namespace F_acts_strip_from
abbrev ia : List Ai := [.ptr (.d T_acts_strip), .dat .bool]
abbrev io : List (Nat × Oi) := [(4, .arg 0 500000 (.d T_acts_strip))]
abbrev R : Type := DOut ia io
noncomputable def X (n : Nat) : Ctx := ⟨⟨tab, [F_acts_strip_may.en n], 0, []⟩, 13, bnOf 0 ia⟩
noncomputable def T : CT := .o
noncomputable def f (n : Nat) (s_ : D_acts_strip) (ok_ : Bool) : Option R := fRun (X n) n T Tryz.f202 ia io (s_, ok_, ())
theorem e0 (n : Nat) (s_ : D_acts_strip) (ok_ : Bool) : f n s_ ok_ =
  bnd (F_acts_strip_may.f n s_ ok_) fun u1 =>
  some (((u1.1.1.1, (u1.1.1.2.1, (u1.1.1.2.2.1, (u1.1.1.2.2.2.1, (u1.1.1.2.2.2.2.1, (u1.1.1.2.2.2.2.2.1, (u1.1.1.2.2.2.2.2.2.1, (u1.1.1.2.2.2.2.2.2.2.1, (u1.1.1.2.2.2.2.2.2.2.2.1, (u1.1.1.2.2.2.2.2.2.2.2.2.1, (u1.1.1.2.2.2.2.2.2.2.2.2.2.1, (u1.1.1.2.2.2.2.2.2.2.2.2.2.2.1, (u1.1.1.2.2.2.2.2.2.2.2.2.2.2.2.1, (u1.1.1.2.2.2.2.2.2.2.2.2.2.2.2.2.1, (u1.1.1.2.2.2.2.2.2.2.2.2.2.2.2.2.2.1, (u1.1.1.2.2.2.2.2.2.2.2.2.2.2.2.2.2.2.1, (u1.1.1.2.2.2.2.2.2.2.2.2.2.2.2.2.2.2.2.1, (((⟨#[]⟩ : ByteArray), ((⟨#[]⟩ : ByteArray), (0, ()))), u1.1.1.2.2.2.2.2.2.2.2.2.2.2.2.2.2.2.2.2.2)))))))))))))))))), u1.1.2), ()) := (hideF_eq _).trans (by kernel_rfl)
theorem phi (n : Nat) : ∀ e ∈ (X n).c.Φ, EntryOk Tryz.prog e := allE_cons (mkEntry_ok (F_acts_strip_may.ok n)) (allE_nil)
theorem ok (n : Nat) : FnOk Tryz.prog 202 ia io (fRun (X n) n T Tryz.f202 ia io) := tree_ok mixed tabIs (phi n) Tryz.func202 (by kernel_rfl) rfl
noncomputable def en (n : Nat) : Entry := mkEntry 202 ia io (fRun (X n) n T Tryz.f202 ia io)
end F_acts_strip_from
end Go.Proofs.YtcpkhpboemfglaaGreatDoor

namespace Go.Proofs.YtcpkhpboemfglaaGreatDoor
open Go Go.Va Go.Proofs
namespace F_acts_strip_id
abbrev ia : List Ai := [.ptr (.d T_acts_strip), .dat (.int .u64)]
abbrev io : List (Nat × Oi) := [(4, .arg 0 500000 (.d T_acts_strip))]
abbrev R : Type := DOut ia io
noncomputable def X (n : Nat) : Ctx := ⟨⟨tab, [F_acts_strip_may.en n], 0, []⟩, 18, bnOf 0 ia⟩
noncomputable def T : CT := .o
noncomputable def f (n : Nat) (s_ : D_acts_strip) (least : Int) : Option R := fRun (X n) n T Tryz.f198 ia io (s_, least, ())
theorem e0 (n : Nat) (s_ : D_acts_strip) (least : Int) : f n s_ least =
  bnd (F_acts_strip_may.f n s_ (hide (decide (s_.1.2.2.2.2.1 ≥ least)))) fun u1 =>
  some (((u1.1.1.1, (u1.1.1.2.1, (u1.1.1.2.2.1, (u1.1.1.2.2.2.1, (0, u1.1.1.2.2.2.2.2))))), u1.1.2), ()) := (hideF_eq _).trans (by kernel_rfl)
theorem phi (n : Nat) : ∀ e ∈ (X n).c.Φ, EntryOk Tryz.prog e := allE_cons (mkEntry_ok (F_acts_strip_may.ok n)) (allE_nil)
theorem ok (n : Nat) : FnOk Tryz.prog 198 ia io (fRun (X n) n T Tryz.f198 ia io) := tree_ok mixed tabIs (phi n) Tryz.func198 (by kernel_rfl) rfl
noncomputable def en (n : Nat) : Entry := mkEntry 198 ia io (fRun (X n) n T Tryz.f198 ia io)
end F_acts_strip_id
end Go.Proofs.YtcpkhpboemfglaaGreatDoor

namespace Go.Proofs.YtcpkhpboemfglaaGreatDoor
open Go Go.Va Go.Proofs
namespace F_acts_strip_key
abbrev ia : List Ai := [.ptr (.d T_acts_strip)]
abbrev io : List (Nat × Oi) := [(2, .arg 0 500000 (.d T_acts_strip))]
abbrev R : Type := DOut ia io
noncomputable def X (n : Nat) : Ctx := ⟨⟨tab, [F_label_Key.en n, F_acts_strip_may.en n], 0, []⟩, 15, bnOf 0 ia⟩
noncomputable def T : CT := .o
noncomputable def f (n : Nat) (s_ : D_acts_strip) : Option R := fRun (X n) n T Tryz.f194 ia io (s_, ())
theorem e0 (n : Nat) (s_ : D_acts_strip) : f n s_ =
  bnd (F_label_Key.f n s_.1.2.2.2.1) fun u1 =>
  bnd (F_acts_strip_may.f n s_ u1.1) fun u2 =>
  some (((u2.1.1.1, (u2.1.1.2.1, (u2.1.1.2.2.1, ((⟨#[]⟩ : ByteArray), u2.1.1.2.2.2.2)))), u2.1.2), ()) := (hideF_eq _).trans (by kernel_rfl)
theorem phi (n : Nat) : ∀ e ∈ (X n).c.Φ, EntryOk Tryz.prog e := allE_cons (mkEntry_ok (F_label_Key.ok n)) (allE_cons (mkEntry_ok (F_acts_strip_may.ok n)) (allE_nil))
theorem ok (n : Nat) : FnOk Tryz.prog 194 ia io (fRun (X n) n T Tryz.f194 ia io) := tree_ok mixed tabIs (phi n) Tryz.func194 (by kernel_rfl) rfl
noncomputable def en (n : Nat) : Entry := mkEntry 194 ia io (fRun (X n) n T Tryz.f194 ia io)
end F_acts_strip_key
end Go.Proofs.YtcpkhpboemfglaaGreatDoor

namespace Go.Proofs.YtcpkhpboemfglaaGreatDoor
open Go Go.Va Go.Proofs
namespace F_acts_strip_lock
abbrev ia : List Ai := [.ptr (.d T_acts_strip), .dat .bool]
abbrev io : List (Nat × Oi) := [(4, .arg 0 500000 (.d T_acts_strip))]
abbrev R : Type := DOut ia io
noncomputable def X (n : Nat) : Ctx := ⟨⟨tab, [F_mode_Sound.en n, F_acts_strip_may.en n], 0, []⟩, 21, bnOf 0 ia⟩
noncomputable def T : CT := .o
noncomputable def f (n : Nat) (s_ : D_acts_strip) (ok_ : Bool) : Option R := fRun (X n) n T Tryz.f197 ia io (s_, ok_, ())
theorem e0 (n : Nat) (s_ : D_acts_strip) (ok_ : Bool) : f n s_ ok_ =
  bnd (F_mode_Sound.f n s_.1.2.2.2.2.2.2.2.1) fun u1 =>
  bIf (u1.1) (
    bnd (F_acts_strip_may.f n s_ ok_) fun u2 =>
    some (((u2.1.1.1, (u2.1.1.2.1, (u2.1.1.2.2.1, (u2.1.1.2.2.2.1, (u2.1.1.2.2.2.2.1, (u2.1.1.2.2.2.2.2.1, (u2.1.1.2.2.2.2.2.2.1, ((0, (0, (false, ()))), u2.1.1.2.2.2.2.2.2.2.2)))))))), u2.1.2), ())
    ) (
    bnd (F_acts_strip_may.f n s_ false) fun u3 =>
    some (((u3.1.1.1, (u3.1.1.2.1, (u3.1.1.2.2.1, (u3.1.1.2.2.2.1, (u3.1.1.2.2.2.2.1, (u3.1.1.2.2.2.2.2.1, (u3.1.1.2.2.2.2.2.2.1, ((0, (0, (false, ()))), u3.1.1.2.2.2.2.2.2.2.2)))))))), u3.1.2), ())
    ) := (hideF_eq _).trans (by kernel_rfl)
theorem phi (n : Nat) : ∀ e ∈ (X n).c.Φ, EntryOk Tryz.prog e := allE_cons (mkEntry_ok (F_mode_Sound.ok n)) (allE_cons (mkEntry_ok (F_acts_strip_may.ok n)) (allE_nil))
theorem ok (n : Nat) : FnOk Tryz.prog 197 ia io (fRun (X n) n T Tryz.f197 ia io) := tree_ok mixed tabIs (phi n) Tryz.func197 (by kernel_rfl) rfl
noncomputable def en (n : Nat) : Entry := mkEntry 197 ia io (fRun (X n) n T Tryz.f197 ia io)
end F_acts_strip_lock
end Go.Proofs.YtcpkhpboemfglaaGreatDoor

namespace Go.Proofs.YtcpkhpboemfglaaGreatDoor
open Go Go.Va Go.Proofs
namespace F_acts_strip_page
abbrev ia : List Ai := [.ptr (.d T_acts_strip)]
abbrev io : List (Nat × Oi) := [(2, .arg 0 500000 (.d T_acts_strip))]
abbrev R : Type := DOut ia io
noncomputable def X (n : Nat) : Ctx := ⟨⟨tab, [F_acts_strip_may.en n, F_acts_name.en n], 0, []⟩, 36, bnOf 0 ia⟩
abbrev g1 : List Si := [.ref 0 500000 T_acts_strip, .box 500000 (.d T_acts_strip)]
noncomputable def T : CT := (.s .o (.s .o (.r g1 .o)))
noncomputable def J1 (n : Nat) : D_acts_strip × Unit → Option R := jR (X n) n T (bodyOf Tryz.f200) (endK ia io) g1 [1, 1] []
noncomputable def f (n : Nat) (s_ : D_acts_strip) : Option R := fRun (X n) n T Tryz.f200 ia io (s_, ())
theorem e0 (n : Nat) (s_ : D_acts_strip) : f n s_ =
  bnd (F_acts_name.f n s_.1.2.2.2.2.2.2.2.2.2.2.2.2.2.2.2.1) fun u1 =>
  bIf (u1.1) (
    bIf ((hide (decide (s_.1.2.2.2.2.2.2.2.2.2.2.2.2.2.2.2.2.2.2.1 ≥ (1 : Int))))) (
      bnd (F_acts_strip_may.f n s_ (hide (decide (s_.1.2.2.2.2.2.2.2.2.2.2.2.2.2.2.2.2.2.2.1 ≤ (100 : Int))))) fun u2 =>
      J1 n (u2.1, ())
      ) (
      bnd (F_acts_strip_may.f n s_ false) fun u3 =>
      J1 n (u3.1, ())
      )
    ) (
    bnd (F_acts_strip_may.f n s_ false) fun u4 =>
    J1 n (u4.1, ())
    ) := (hideF_eq _).trans (by kernel_rfl)
theorem e1 (n : Nat) (s_ : D_acts_strip) : J1 n (s_, ()) =
  some (((s_.1.1, (s_.1.2.1, (s_.1.2.2.1, (s_.1.2.2.2.1, (s_.1.2.2.2.2.1, (s_.1.2.2.2.2.2.1, (s_.1.2.2.2.2.2.2.1, (s_.1.2.2.2.2.2.2.2.1, (s_.1.2.2.2.2.2.2.2.2.1, (s_.1.2.2.2.2.2.2.2.2.2.1, (s_.1.2.2.2.2.2.2.2.2.2.2.1, (s_.1.2.2.2.2.2.2.2.2.2.2.2.1, (s_.1.2.2.2.2.2.2.2.2.2.2.2.2.1, (s_.1.2.2.2.2.2.2.2.2.2.2.2.2.2.1, (s_.1.2.2.2.2.2.2.2.2.2.2.2.2.2.2.1, ((⟨#[]⟩ : ByteArray), (s_.1.2.2.2.2.2.2.2.2.2.2.2.2.2.2.2.2.1, (s_.1.2.2.2.2.2.2.2.2.2.2.2.2.2.2.2.2.2.1, (0, s_.1.2.2.2.2.2.2.2.2.2.2.2.2.2.2.2.2.2.2.2))))))))))))))))))), s_.2), ()) := (hideF_eq _).trans (by kernel_rfl)
theorem phi (n : Nat) : ∀ e ∈ (X n).c.Φ, EntryOk Tryz.prog e := allE_cons (mkEntry_ok (F_acts_strip_may.ok n)) (allE_cons (mkEntry_ok (F_acts_name.ok n)) (allE_nil))
theorem ok (n : Nat) : FnOk Tryz.prog 200 ia io (fRun (X n) n T Tryz.f200 ia io) := tree_ok mixed tabIs (phi n) Tryz.func200 (by kernel_rfl) rfl
noncomputable def en (n : Nat) : Entry := mkEntry 200 ia io (fRun (X n) n T Tryz.f200 ia io)
end F_acts_strip_page
end Go.Proofs.YtcpkhpboemfglaaGreatDoor

namespace Go.Proofs.YtcpkhpboemfglaaGreatDoor
open Go Go.Va Go.Proofs
namespace F_acts_strip_tags
abbrev ia : List Ai := [.ptr (.d T_acts_strip)]
abbrev io : List (Nat × Oi) := [(2, .arg 0 500000 (.d T_acts_strip))]
abbrev R : Type := DOut ia io
noncomputable def X (n : Nat) : Ctx := ⟨⟨tab, [F_tags_Sound.en n, F_acts_strip_may.en n], 0, []⟩, 15, bnOf 0 ia⟩
noncomputable def T : CT := .o
noncomputable def f (n : Nat) (s_ : D_acts_strip) : Option R := fRun (X n) n T Tryz.f196 ia io (s_, ())
theorem e0 (n : Nat) (s_ : D_acts_strip) : f n s_ =
  bnd (F_tags_Sound.f n s_.1.2.2.2.2.2.2.1) fun u1 =>
  bnd (F_acts_strip_may.f n s_ u1.1) fun u2 =>
  some (((u2.1.1.1, (u2.1.1.2.1, (u2.1.1.2.2.1, (u2.1.1.2.2.2.1, (u2.1.1.2.2.2.2.1, (u2.1.1.2.2.2.2.2.1, ([], u2.1.1.2.2.2.2.2.2.2))))))), u2.1.2), ()) := (hideF_eq _).trans (by kernel_rfl)
theorem phi (n : Nat) : ∀ e ∈ (X n).c.Φ, EntryOk Tryz.prog e := allE_cons (mkEntry_ok (F_tags_Sound.ok n)) (allE_cons (mkEntry_ok (F_acts_strip_may.ok n)) (allE_nil))
theorem ok (n : Nat) : FnOk Tryz.prog 196 ia io (fRun (X n) n T Tryz.f196 ia io) := tree_ok mixed tabIs (phi n) Tryz.func196 (by kernel_rfl) rfl
noncomputable def en (n : Nat) : Entry := mkEntry 196 ia io (fRun (X n) n T Tryz.f196 ia io)
end F_acts_strip_tags
end Go.Proofs.YtcpkhpboemfglaaGreatDoor

namespace Go.Proofs.YtcpkhpboemfglaaGreatDoor
open Go Go.Va Go.Proofs
namespace F_acts_strip_own
abbrev ia : List Ai := [.ptr (.d T_acts_strip)]
abbrev io : List (Nat × Oi) := []
abbrev R : Type := DOut ia io
noncomputable def X (n : Nat) : Ctx := ⟨⟨tab, [F_label_Bucket.en n, F_label_Key.en n, F_mode_Good.en n, F_entry_Rules.en n, F_entry_Grants.en n, F_acts_strip_may.en n, F_acts_strip_key.en n, F_acts_strip_body.en n, F_acts_strip_tags.en n, F_acts_strip_lock.en n, F_acts_strip_id.en n, F_acts_strip_bypass.en n, F_acts_strip_page.en n, F_acts_name.en n, F_acts_strip_from.en n], 0, []⟩, 192, bnOf 0 ia⟩
abbrev g1 : List Si := [.ref 0 500000 T_acts_strip, .ref 2 2 T_api_Request, .dat 8 (.int .i64), .dat 11 .bool, .box 2 (.d T_api_Request), .box 500000 (.d T_acts_strip)]
abbrev g2 : List Si := [.ref 0 500000 T_acts_strip, .ref 2 2 T_api_Request, .dat 8 (.int .i64), .dat 23 .bool, .box 2 (.d T_api_Request), .box 500000 (.d T_acts_strip)]
abbrev g3 : List Si := [.ref 0 500000 T_acts_strip, .ref 2 2 T_api_Request, .dat 8 (.int .i64), .dat 54 .bool, .box 2 (.d T_api_Request), .box 500000 (.d T_acts_strip)]
abbrev g4 : List Si := [.ref 0 500000 T_acts_strip, .box 500000 (.d T_acts_strip)]
noncomputable def T : CT := (.s .o (.s .o (.b (.s .o (.r g1 (.c .o (.s .o (.r g2 (.c .o (.s .o (.c .o (.s .o (.c .o (.s .o (.c .o (.s .o (.r g3 (.c .o (.s .o (.c .o (.s .o (.c .o (.s .o (.c .o (.s .o (.c .o (.s .o (.c .o (.s .o (.c (.s .o (.r g4 .o)) .o))))))))))))))))))))))))))))))
noncomputable def J1 (n : Nat) : Int × Bool × D_api_Request × D_acts_strip × Unit → Option R := jR (X n) n T (bodyOf Tryz.f167) (endK ia io) g1 [1, 1, 0, 1] []
noncomputable def J2 (n : Nat) : Int × Bool × D_api_Request × D_acts_strip × Unit → Option R := jR (X n) n T (bodyOf Tryz.f167) (endK ia io) g2 [1, 1, 0, 1, 1, 1] []
noncomputable def J3 (n : Nat) : Int × Bool × D_api_Request × D_acts_strip × Unit → Option R := jR (X n) n T (bodyOf Tryz.f167) (endK ia io) g3 [1, 1, 0, 1, 1, 1, 1, 1, 1, 1, 1, 1, 1, 1] []
noncomputable def J4 (n : Nat) : D_acts_strip × Unit → Option R := jR (X n) n T (bodyOf Tryz.f167) (endK ia io) g4 [1, 1, 0, 1, 1, 1, 1, 1, 1, 1, 1, 1, 1, 1, 1, 1, 1, 1, 1, 1, 1, 1, 1, 1, 1, 1, 0, 1] []
noncomputable def f (n : Nat) (t : D_acts_strip) : Option R := fRun (X n) n T Tryz.f167 ia io (t, ())
theorem e0 (n : Nat) (t : D_acts_strip) : f n t =
  bIf ((hide (t.1.1 == (1 : Int)))) (
    J1 n (t.1.1, true, t.1, t, ())
    ) (
    J1 n (t.1.1, (hide (t.1.1 == (3 : Int))), t.1, t, ())
    ) := (hideF_eq _).trans (by kernel_rfl)
theorem e1 (n : Nat) (t8 : Int) (t11 : Bool) (A : D_api_Request) (t : D_acts_strip) : J1 n (t8, t11, A, t, ()) =
  bIf (t11) (
    bnd (F_mode_Good.f n A.2.2.2.2.2.2.2.2.2.1) fun u1 =>
    bnd (F_acts_strip_may.f n t u1.1) fun u2 =>
    some (((u2.1.1.1, (u2.1.1.2.1, (u2.1.1.2.2.1, (u2.1.1.2.2.2.1, (u2.1.1.2.2.2.2.1, (u2.1.1.2.2.2.2.2.1, (u2.1.1.2.2.2.2.2.2.1, (u2.1.1.2.2.2.2.2.2.2.1, (u2.1.1.2.2.2.2.2.2.2.2.1, ((0, (0, ())), u2.1.1.2.2.2.2.2.2.2.2.2.2)))))))))), u2.1.2), ())
    ) (
    bIf ((hide (t8 == (2 : Int)))) (
      J2 n (t8, true, A, t, ())
      ) (
      bIf ((hide (t8 == (21 : Int)))) (
        J2 n (t8, true, A, t, ())
        ) (
        J2 n (t8, (hide (t8 == (22 : Int))), A, t, ())
        )
      )
    ) := (hideF_eq _).trans (by kernel_rfl)
theorem e2 (n : Nat) (t8 : Int) (t23 : Bool) (A : D_api_Request) (t : D_acts_strip) : J2 n (t8, t23, A, t, ()) =
  bIf (t23) (
    some (t, ())
    ) (
    bIf ((hide (t8 == (4 : Int)))) (
      bnd (F_entry_Rules.f n A.2.2.2.2.2.2.2.2.2.2.1) fun u1 =>
      bnd (F_acts_strip_may.f n t u1.1) fun u2 =>
      some (((u2.1.1.1, (u2.1.1.2.1, (u2.1.1.2.2.1, (u2.1.1.2.2.2.1, (u2.1.1.2.2.2.2.1, (u2.1.1.2.2.2.2.2.1, (u2.1.1.2.2.2.2.2.2.1, (u2.1.1.2.2.2.2.2.2.2.1, (u2.1.1.2.2.2.2.2.2.2.2.1, (u2.1.1.2.2.2.2.2.2.2.2.2.1, ([], u2.1.1.2.2.2.2.2.2.2.2.2.2.2))))))))))), u2.1.2), ())
      ) (
      bIf ((hide (t8 == (5 : Int)))) (
        bnd (F_entry_Grants.f n A.2.2.2.2.2.2.2.2.2.2.2.1) fun u3 =>
        bnd (F_acts_strip_may.f n t u3.1) fun u4 =>
        some (((u4.1.1.1, (u4.1.1.2.1, (u4.1.1.2.2.1, (u4.1.1.2.2.2.1, (u4.1.1.2.2.2.2.1, (u4.1.1.2.2.2.2.2.1, (u4.1.1.2.2.2.2.2.2.1, (u4.1.1.2.2.2.2.2.2.2.1, (u4.1.1.2.2.2.2.2.2.2.2.1, (u4.1.1.2.2.2.2.2.2.2.2.2.1, (u4.1.1.2.2.2.2.2.2.2.2.2.2.1, ([], u4.1.1.2.2.2.2.2.2.2.2.2.2.2.2)))))))))))), u4.1.2), ())
        ) (
        bIf ((hide (t8 == (6 : Int)))) (
          bnd (F_acts_strip_key.f n t) fun u5 =>
          bnd (F_acts_strip_body.f n u5.1) fun u6 =>
          bnd (F_acts_strip_tags.f n u6.1) fun u7 =>
          bnd (F_acts_strip_lock.f n u7.1 true) fun u8 =>
          some (u8.1, ())
          ) (
          bIf ((hide (t8 == (7 : Int)))) (
            J3 n (t8, true, A, t, ())
            ) (
            J3 n (t8, (hide (t8 == (8 : Int))), A, t, ())
            )
          )
        )
      )
    ) := (hideF_eq _).trans (by kernel_rfl)
theorem e3 (n : Nat) (t8 : Int) (t54 : Bool) (A : D_api_Request) (t : D_acts_strip) : J3 n (t8, t54, A, t, ()) =
  bIf (t54) (
    bnd (F_acts_strip_key.f n t) fun u1 =>
    bnd (F_acts_strip_id.f n u1.1 0) fun u2 =>
    some (u2.1, ())
    ) (
    bIf ((hide (t8 == (9 : Int)))) (
      bnd (F_acts_strip_key.f n t) fun u3 =>
      some (u3.1, ())
      ) (
      bIf ((hide (t8 == (10 : Int)))) (
        bnd (F_acts_strip_key.f n t) fun u4 =>
        bnd (F_acts_strip_id.f n u4.1 1) fun u5 =>
        bnd (F_acts_strip_bypass.f n u5.1) fun u6 =>
        some (u6.1, ())
        ) (
        bIf ((hide (t8 == (11 : Int)))) (
          bnd (F_acts_strip_key.f n t) fun u7 =>
          bnd (F_acts_strip_id.f n u7.1 0) fun u8 =>
          bnd (F_acts_strip_lock.f n u8.1 (!A.2.2.2.2.2.2.2.1.2.2.1)) fun u9 =>
          bnd (F_acts_strip_bypass.f n u9.1) fun u10 =>
          some (u10.1, ())
          ) (
          bIf ((hide (t8 == (12 : Int)))) (
            bnd (F_acts_strip_key.f n t) fun u11 =>
            bnd (F_acts_strip_id.f n u11.1 0) fun u12 =>
            bnd (F_acts_strip_lock.f n u12.1 (hide (A.2.2.2.2.2.2.2.1.1 == (0 : Int)))) fun u13 =>
            some (u13.1, ())
            ) (
            bIf ((hide (t8 == (13 : Int)))) (
              bnd (F_acts_strip_key.f n t) fun u14 =>
              bnd (F_acts_strip_id.f n u14.1 0) fun u15 =>
              bnd (F_acts_strip_tags.f n u15.1) fun u16 =>
              some (u16.1, ())
              ) (
              bIf ((hide (t8 == (14 : Int)))) (
                bnd (F_acts_strip_page.f n t) fun u17 =>
                bnd (F_acts_name.f n A.2.2.2.2.2.2.2.2.2.2.2.2.2.2.2.2.1) fun u18 =>
                bIf (u18.1) (
                  bnd (F_acts_name.f n A.2.2.2.2.2.2.2.2.2.2.2.2.2.2.1) fun u19 =>
                  bnd (F_acts_strip_may.f n u17.1 u19.1) fun u20 =>
                  J4 n (u20.1, ())
                  ) (
                  bnd (F_acts_strip_may.f n u17.1 false) fun u21 =>
                  J4 n (u21.1, ())
                  )
                ) (
                bIf ((hide (t8 == (15 : Int)))) (
                  bnd (F_acts_strip_page.f n t) fun u22 =>
                  bIf ((hide (eqS A.2.2.2.2.2.2.2.2.2.2.2.2.2.2.2.2.2.1.1 (⟨#[]⟩ : ByteArray)))) (
                    bnd (F_acts_name.f n A.2.2.2.2.2.2.2.2.2.2.2.2.2.2.2.2.2.1.2.1) fun u23 =>
                    bnd (F_acts_strip_from.f n u22.1 u23.1) fun u24 =>
                    some (u24.1, ())
                    ) (
                    bnd (F_acts_strip_from.f n u22.1 false) fun u25 =>
                    some (u25.1, ())
                    )
                  ) (
                  bIf ((hide (t8 == (16 : Int)))) (
                    bnd (F_acts_strip_key.f n t) fun u26 =>
                    bnd (F_acts_strip_tags.f n u26.1) fun u27 =>
                    some (u27.1, ())
                    ) (
                    bIf ((hide (t8 == (17 : Int)))) (
                      bnd (F_acts_strip_id.f n t 1) fun u28 =>
                      bnd (F_acts_strip_body.f n u28.1) fun u29 =>
                      bIf ((hide (decide (A.2.2.2.2.2.2.2.2.2.2.2.2.1 ≥ (1 : Int))))) (
                        bnd (F_acts_strip_may.f n u29.1 (hide (decide (A.2.2.2.2.2.2.2.2.2.2.2.2.1 ≤ (10000 : Int))))) fun u30 =>
                        some (((u30.1.1.1, (u30.1.1.2.1, (u30.1.1.2.2.1, (u30.1.1.2.2.2.1, (u30.1.1.2.2.2.2.1, (u30.1.1.2.2.2.2.2.1, (u30.1.1.2.2.2.2.2.2.1, (u30.1.1.2.2.2.2.2.2.2.1, (u30.1.1.2.2.2.2.2.2.2.2.1, (u30.1.1.2.2.2.2.2.2.2.2.2.1, (u30.1.1.2.2.2.2.2.2.2.2.2.2.1, (u30.1.1.2.2.2.2.2.2.2.2.2.2.2.1, (0, u30.1.1.2.2.2.2.2.2.2.2.2.2.2.2.2))))))))))))), u30.1.2), ())
                        ) (
                        bnd (F_acts_strip_may.f n u29.1 false) fun u31 =>
                        some (((u31.1.1.1, (u31.1.1.2.1, (u31.1.1.2.2.1, (u31.1.1.2.2.2.1, (u31.1.1.2.2.2.2.1, (u31.1.1.2.2.2.2.2.1, (u31.1.1.2.2.2.2.2.2.1, (u31.1.1.2.2.2.2.2.2.2.1, (u31.1.1.2.2.2.2.2.2.2.2.1, (u31.1.1.2.2.2.2.2.2.2.2.2.1, (u31.1.1.2.2.2.2.2.2.2.2.2.2.1, (u31.1.1.2.2.2.2.2.2.2.2.2.2.2.1, (0, u31.1.1.2.2.2.2.2.2.2.2.2.2.2.2.2))))))))))))), u31.1.2), ())
                        )
                      ) (
                      bIf ((hide (t8 == (18 : Int)))) (
                        bnd (F_acts_strip_id.f n t 1) fun u32 =>
                        bnd (F_acts_strip_may.f n u32.1 (hide (decide (((A.2.2.2.2.2.2.2.2.2.2.2.2.2.1.length : Nat) : Int) ≤ (16 : Int))))) fun u33 =>
                        some (((u33.1.1.1, (u33.1.1.2.1, (u33.1.1.2.2.1, (u33.1.1.2.2.2.1, (u33.1.1.2.2.2.2.1, (u33.1.1.2.2.2.2.2.1, (u33.1.1.2.2.2.2.2.2.1, (u33.1.1.2.2.2.2.2.2.2.1, (u33.1.1.2.2.2.2.2.2.2.2.1, (u33.1.1.2.2.2.2.2.2.2.2.2.1, (u33.1.1.2.2.2.2.2.2.2.2.2.2.1, (u33.1.1.2.2.2.2.2.2.2.2.2.2.2.1, (u33.1.1.2.2.2.2.2.2.2.2.2.2.2.2.1, ([], u33.1.1.2.2.2.2.2.2.2.2.2.2.2.2.2.2)))))))))))))), u33.1.2), ())
                        ) (
                        bIf ((hide (t8 == (19 : Int)))) (
                          bnd (F_acts_strip_id.f n t 1) fun u34 =>
                          some (u34.1, ())
                          ) (
                          bIf ((hide (t8 == (20 : Int)))) (
                            bnd (F_acts_strip_key.f n t) fun u35 =>
                            bnd (F_label_Bucket.f n A.2.2.2.2.2.2.2.2.2.2.2.2.2.2.2.2.2.1.1) fun u36 =>
                            bIf (u36.1) (
                              bnd (F_label_Key.f n A.2.2.2.2.2.2.2.2.2.2.2.2.2.2.2.2.2.1.2.1) fun u37 =>
                              bIf (u37.1) (
                                bnd (F_acts_strip_from.f n u35.1 (hide (decide (A.2.2.2.2.2.2.2.2.2.2.2.2.2.2.2.2.2.1.2.2.1 ≥ (1 : Int))))) fun u38 =>
                                some (u38.1, ())
                                ) (
                                bnd (F_acts_strip_from.f n u35.1 false) fun u39 =>
                                some (u39.1, ())
                                )
                              ) (
                              bnd (F_acts_strip_from.f n u35.1 false) fun u40 =>
                              some (u40.1, ())
                              )
                            ) (
                            bnd (F_acts_strip_may.f n t false) fun u41 =>
                            some (u41.1, ())
                            )
                          )
                        )
                      )
                    )
                  )
                )
              )
            )
          )
        )
      )
    ) := (hideF_eq _).trans (by kernel_rfl)
theorem e4 (n : Nat) (t : D_acts_strip) : J4 n (t, ()) =
  some (((t.1.1, (t.1.2.1, (t.1.2.2.1, (t.1.2.2.2.1, (t.1.2.2.2.2.1, (t.1.2.2.2.2.2.1, (t.1.2.2.2.2.2.2.1, (t.1.2.2.2.2.2.2.2.1, (t.1.2.2.2.2.2.2.2.2.1, (t.1.2.2.2.2.2.2.2.2.2.1, (t.1.2.2.2.2.2.2.2.2.2.2.1, (t.1.2.2.2.2.2.2.2.2.2.2.2.1, (t.1.2.2.2.2.2.2.2.2.2.2.2.2.1, (t.1.2.2.2.2.2.2.2.2.2.2.2.2.2.1, ((⟨#[]⟩ : ByteArray), (t.1.2.2.2.2.2.2.2.2.2.2.2.2.2.2.2.1, ((⟨#[]⟩ : ByteArray), t.1.2.2.2.2.2.2.2.2.2.2.2.2.2.2.2.2.2))))))))))))))))), t.2), ()) := (hideF_eq _).trans (by kernel_rfl)
theorem phi (n : Nat) : ∀ e ∈ (X n).c.Φ, EntryOk Tryz.prog e := allE_cons (mkEntry_ok (F_label_Bucket.ok n)) (allE_cons (mkEntry_ok (F_label_Key.ok n)) (allE_cons (mkEntry_ok (F_mode_Good.ok n)) (allE_cons (mkEntry_ok (F_entry_Rules.ok n)) (allE_cons (mkEntry_ok (F_entry_Grants.ok n)) (allE_cons (mkEntry_ok (F_acts_strip_may.ok n)) (allE_cons (mkEntry_ok (F_acts_strip_key.ok n)) (allE_cons (mkEntry_ok (F_acts_strip_body.ok n)) (allE_cons (mkEntry_ok (F_acts_strip_tags.ok n)) (allE_cons (mkEntry_ok (F_acts_strip_lock.ok n)) (allE_cons (mkEntry_ok (F_acts_strip_id.ok n)) (allE_cons (mkEntry_ok (F_acts_strip_bypass.ok n)) (allE_cons (mkEntry_ok (F_acts_strip_page.ok n)) (allE_cons (mkEntry_ok (F_acts_name.ok n)) (allE_cons (mkEntry_ok (F_acts_strip_from.ok n)) (allE_nil)))))))))))))))
theorem ok (n : Nat) : FnOk Tryz.prog 167 ia io (fRun (X n) n T Tryz.f167 ia io) := tree_ok mixed tabIs (phi n) Tryz.func167 (by kernel_rfl) rfl
noncomputable def en (n : Nat) : Entry := mkEntry 167 ia io (fRun (X n) n T Tryz.f167 ia io)
end F_acts_strip_own
end Go.Proofs.YtcpkhpboemfglaaGreatDoor

namespace Go.Proofs.YtcpkhpboemfglaaGreatDoor
open Go Go.Va Go.Proofs
namespace F_acts_Good
abbrev ia : List Ai := [.dat T_api_Request]
abbrev io : List (Nat × Oi) := [(2, .dat .bool)]
abbrev R : Type := DOut ia io
noncomputable def X (n : Nat) : Ctx := ⟨⟨tab, [F_label_Bucket.en n, F_label_Clean.en n, F_acts_anywhere.en n, F_acts_strip_own.en n, F_acts_bare.en n], 0, []⟩, 50, bnOf 0 ia⟩
abbrev g1 : List Si := [.ref 1 1 T_api_Request, .box 1 (.d T_api_Request)]
noncomputable def T : CT := (.s .o (.s .o (.r g1 .o)))
noncomputable def J1 (n : Nat) : D_api_Request × Unit → Option R := jR (X n) n T (bodyOf Tryz.f97) (endK ia io) g1 [1, 1] []
noncomputable def f (n : Nat) (r : D_api_Request) : Option R := fRun (X n) n T Tryz.f97 ia io (r, ())
theorem e0 (n : Nat) (r : D_api_Request) : f n r =
  bIf ((hide (decide ((r.2.1.size : Int) > (64 : Int))))) (
    some (false, ())
    ) (
    bnd (F_label_Clean.f n r.2.1) fun u1 =>
    bIf ((!u1.1)) (
      some (false, ())
      ) (
      bnd (F_acts_anywhere.f n r.1) fun u2 =>
      bIf ((hide (!(u2.1 == (hide (eqS r.2.2.1 (⟨#[]⟩ : ByteArray))))))) (
        some (false, ())
        ) (
        bIf ((hide (!eqS r.2.2.1 (⟨#[]⟩ : ByteArray)))) (
          bnd (F_label_Bucket.f n r.2.2.1) fun u3 =>
          bIf ((!u3.1)) (
            some (false, ())
            ) (
            J1 n (r, ())
            )
          ) (
          J1 n (r, ())
          )
        )
      )
    ) := (hideF_eq _).trans (by kernel_rfl)
theorem e1 (n : Nat) (r : D_api_Request) : J1 n (r, ()) =
  bnd (F_acts_strip_own.f n (r, (true, ()))) fun u1 =>
  bIf (u1.1.2.1) (
    bnd (F_acts_bare.f n u1.1.1) fun u2 =>
    some (u2.1, ())
    ) (
    some (false, ())
    ) := (hideF_eq _).trans (by kernel_rfl)
theorem phi (n : Nat) : ∀ e ∈ (X n).c.Φ, EntryOk Tryz.prog e := allE_cons (mkEntry_ok (F_label_Bucket.ok n)) (allE_cons (mkEntry_ok (F_label_Clean.ok n)) (allE_cons (mkEntry_ok (F_acts_anywhere.ok n)) (allE_cons (mkEntry_ok (F_acts_strip_own.ok n)) (allE_cons (mkEntry_ok (F_acts_bare.ok n)) (allE_nil)))))
theorem ok (n : Nat) : FnOk Tryz.prog 97 ia io (fRun (X n) n T Tryz.f97 ia io) := tree_ok mixed tabIs (phi n) Tryz.func97 (by kernel_rfl) rfl
noncomputable def en (n : Nat) : Entry := mkEntry 97 ia io (fRun (X n) n T Tryz.f97 ia io)
end F_acts_Good
end Go.Proofs.YtcpkhpboemfglaaGreatDoor

namespace Go.Proofs.YtcpkhpboemfglaaGreatDoor
open Go Go.Va Go.Proofs
namespace F_pack_New
abbrev ia : List Ai := []
abbrev io : List (Nat × Oi) := [(0, .new 0 (.p (.r 0 (.int .u8)) (.d .unit)))]
abbrev R : Type := DOut ia io
noncomputable def X (n : Nat) : Ctx := ⟨⟨tab, [], 0, []⟩, 3, bnOf 0 ia⟩
noncomputable def T : CT := .o
noncomputable def f (n : Nat) : Option R := fRun (X n) n T Tryz.f101 ia io (())
theorem e0 (n : Nat) : f n =
  some (([], ()), ()) := (hideF_eq _).trans (by kernel_rfl)
theorem phi (n : Nat) : ∀ e ∈ (X n).c.Φ, EntryOk Tryz.prog e := allE_nil
theorem ok (n : Nat) : FnOk Tryz.prog 101 ia io (fRun (X n) n T Tryz.f101 ia io) := tree_ok mixed tabIs (phi n) Tryz.func101 (by kernel_rfl) rfl
noncomputable def en (n : Nat) : Entry := mkEntry 101 ia io (fRun (X n) n T Tryz.f101 ia io)
end F_pack_New
end Go.Proofs.YtcpkhpboemfglaaGreatDoor

namespace Go.Proofs.YtcpkhpboemfglaaGreatDoor
open Go Go.Va Go.Proofs
namespace F_entry_NewWriter
abbrev ia : List Ai := []
abbrev io : List (Nat × Oi) := [(0, .newc 1 (.p (.r 0 (.int .u8)) (.d .unit)))]
abbrev R : Type := DOut ia io
noncomputable def X (n : Nat) : Ctx := ⟨⟨tab, [F_pack_New.en n], 0, []⟩, 3, bnOf 0 ia⟩
noncomputable def T : CT := .o
noncomputable def f (n : Nat) : Option R := fRun (X n) n T Tryz.f36 ia io (())
theorem e0 (n : Nat) : f n =
  bnd (F_pack_New.f n) fun u1 =>
  some ((u1.1.1, u1.1.2), ()) := (hideF_eq _).trans (by kernel_rfl)
theorem phi (n : Nat) : ∀ e ∈ (X n).c.Φ, EntryOk Tryz.prog e := allE_cons (mkEntry_ok (F_pack_New.ok n)) (allE_nil)
theorem ok (n : Nat) : FnOk Tryz.prog 36 ia io (fRun (X n) n T Tryz.f36 ia io) := tree_ok mixed tabIs (phi n) Tryz.func36 (by kernel_rfl) rfl
noncomputable def en (n : Nat) : Entry := mkEntry 36 ia io (fRun (X n) n T Tryz.f36 ia io)
end F_entry_NewWriter
end Go.Proofs.YtcpkhpboemfglaaGreatDoor

namespace Go.Proofs.YtcpkhpboemfglaaGreatDoor
open Go Go.Va Go.Proofs
namespace F_wire_none
abbrev ia : List Ai := [.dat T_api_Version]
abbrev io : List (Nat × Oi) := [(2, .dat .bool)]
abbrev R : Type := DOut ia io
noncomputable def X (n : Nat) : Ctx := ⟨⟨tab, [F_object_SameVersion.en n], 0, []⟩, 6, bnOf 0 ia⟩
noncomputable def T : CT := .o
noncomputable def f (n : Nat) (v_ : D_api_Version) : Option R := fRun (X n) n T Tryz.f154 ia io (v_, ())
theorem e0 (n : Nat) (v_ : D_api_Version) : f n v_ =
  bnd (F_object_SameVersion.f n v_ (0, (false, (0, (0, ((List.replicate 32 0), (0, ((0, (0, (false, ()))), ([], ()))))))))) fun u1 =>
  some (u1.1, ()) := (hideF_eq _).trans (by kernel_rfl)
theorem phi (n : Nat) : ∀ e ∈ (X n).c.Φ, EntryOk Tryz.prog e := allE_cons (mkEntry_ok (F_object_SameVersion.ok n)) (allE_nil)
theorem ok (n : Nat) : FnOk Tryz.prog 154 ia io (fRun (X n) n T Tryz.f154 ia io) := tree_ok mixed tabIs (phi n) Tryz.func154 (by kernel_rfl) rfl
noncomputable def en (n : Nat) : Entry := mkEntry 154 ia io (fRun (X n) n T Tryz.f154 ia io)
end F_wire_none
end Go.Proofs.YtcpkhpboemfglaaGreatDoor

namespace Go.Proofs.YtcpkhpboemfglaaGreatDoor
open Go Go.Va Go.Proofs
namespace F_wire_goodRow
abbrev ia : List Ai := [.dat T_api_Row]
abbrev io : List (Nat × Oi) := [(2, .dat .bool)]
abbrev R : Type := DOut ia io
noncomputable def X (n : Nat) : Ctx := ⟨⟨tab, [F_object_Good.en n, F_wire_none.en n], 0, []⟩, 20, bnOf 0 ia⟩
noncomputable def T : CT := .o
noncomputable def f (n : Nat) (r : D_api_Row) : Option R := fRun (X n) n T Tryz.f157 ia io (r, ())
theorem e0 (n : Nat) (r : D_api_Row) : f n r =
  bIf ((hide (decide ((r.1.size : Int) > (200 : Int))))) (
    some (false, ())
    ) (
    bIf (r.2.1) (
      bIf ((!r.2.2.2.1)) (
        bnd (F_wire_none.f n r.2.2.1) fun u1 =>
        some (u1.1, ())
        ) (
        some (false, ())
        )
      ) (
      bnd (F_object_Good.f n r.2.2.1) fun u2 =>
      some (u2.1, ())
      )
    ) := (hideF_eq _).trans (by kernel_rfl)
theorem phi (n : Nat) : ∀ e ∈ (X n).c.Φ, EntryOk Tryz.prog e := allE_cons (mkEntry_ok (F_object_Good.ok n)) (allE_cons (mkEntry_ok (F_wire_none.ok n)) (allE_nil))
theorem ok (n : Nat) : FnOk Tryz.prog 157 ia io (fRun (X n) n T Tryz.f157 ia io) := tree_ok mixed tabIs (phi n) Tryz.func157 (by kernel_rfl) rfl
noncomputable def en (n : Nat) : Entry := mkEntry 157 ia io (fRun (X n) n T Tryz.f157 ia io)
end F_wire_goodRow
end Go.Proofs.YtcpkhpboemfglaaGreatDoor

namespace Go.Proofs.YtcpkhpboemfglaaGreatDoor
open Go Go.Va Go.Proofs
namespace F_wire_good_1
abbrev ia : List Ai := [.dat T_api_Row]
abbrev io : List (Nat × Oi) := [(2, .dat .bool)]
abbrev R : Type := DOut ia io
noncomputable def X (n : Nat) : Ctx := ⟨⟨tab, [F_wire_goodRow.en n], 0, []⟩, 6, bnOf 0 ia⟩
noncomputable def T : CT := .o
noncomputable def f (n : Nat) (x_ : D_api_Row) : Option R := fRun (X n) n T Tryz.f156 ia io (x_, ())
theorem e0 (n : Nat) (x_ : D_api_Row) : f n x_ =
  bnd (F_wire_goodRow.f n x_) fun u1 =>
  some ((!u1.1), ()) := (hideF_eq _).trans (by kernel_rfl)
theorem phi (n : Nat) : ∀ e ∈ (X n).c.Φ, EntryOk Tryz.prog e := allE_cons (mkEntry_ok (F_wire_goodRow.ok n)) (allE_nil)
theorem ok (n : Nat) : FnOk Tryz.prog 156 ia io (fRun (X n) n T Tryz.f156 ia io) := tree_ok mixed tabIs (phi n) Tryz.func156 (by kernel_rfl) rfl
noncomputable def en (n : Nat) : Entry := mkEntry 156 ia io (fRun (X n) n T Tryz.f156 ia io)
end F_wire_good_1
end Go.Proofs.YtcpkhpboemfglaaGreatDoor

namespace Go.Proofs.YtcpkhpboemfglaaGreatDoor
open Go Go.Va Go.Proofs
namespace F_slices_IndexFunc_Row
abbrev ia : List Ai := [.dat (.slice T_api_Row), .fn (.fn 156) []]
abbrev io : List (Nat × Oi) := [(4, .dat (.int .i64))]
abbrev R : Type := DOut ia io
noncomputable def X (n : Nat) : Ctx := ⟨⟨tab, [F_wire_good_1.en n], 0, []⟩, 19, bnOf 0 ia⟩
abbrev g1 : List Si := [.dat 0 (.slice T_api_Row), .clo 1 (.fn 156) [], .dat 7 (.int .i64), .dat 8 (.int .i64)]
abbrev g2 : List Si := []
noncomputable def T : CT := (.s .o (.s (.s .o (.b (.l g1 .o))) (.r g2 .o)))
noncomputable def J1 (n : Nat) (m : Nat) : (List (D_api_Row)) × Int × Int × Unit → Option R := jL (X n) n T (bodyOf Tryz.f189) (endK ia io) g1 [1, 0, 1, 0] [] m
noncomputable def J2 (n : Nat) : Unit → Option R := jR (X n) n T (bodyOf Tryz.f189) (endK ia io) g2 [1, 1] []
noncomputable def f (n : Nat) (s_ : List (D_api_Row)) : Option R := fRun (X n) n T Tryz.f189 ia io (s_, ())
theorem e0 (n : Nat) (s_ : List (D_api_Row)) : f n s_ =
  J1 n n (s_, ((s_.length : Nat) : Int), 0, ()) := (hideF_eq _).trans (by kernel_rfl)
theorem e1 (n m : Nat) (s_ : List (D_api_Row)) (t7 : Int) (t8 : Int) : J1 n (m + 1) (s_, t7, t8, ()) =
  bIf ((hide (decide (t8 < t7)))) (
    gIf (0 ≤ t8 ∧ t8 < ((s_.length : Nat) : Int)) (
      bnd (F_wire_good_1.f n (List.getD s_ t8.toNat (Va.dflt T_api_Row))) fun u1 =>
      bIf (u1.1) (
        some (t8, ())
        ) (
        J1 n m (s_, t7, (IntKind.i64.wrap (t8 + (1 : Int))), ())
        )
      )
    ) (
    J2 n (())
    ) := (hideF_eq _).trans (by kernel_rfl)
theorem e2 (n : Nat) : J2 n (()) =
  some ((-1), ()) := (hideF_eq _).trans (by kernel_rfl)
theorem phi (n : Nat) : ∀ e ∈ (X n).c.Φ, EntryOk Tryz.prog e := allE_cons (mkEntry_ok (F_wire_good_1.ok n)) (allE_nil)
theorem ok (n : Nat) : FnOk Tryz.prog 189 ia io (fRun (X n) n T Tryz.f189 ia io) := tree_ok mixed tabIs (phi n) Tryz.func189 (by kernel_rfl) rfl
noncomputable def en (n : Nat) : Entry := mkEntry 189 ia io (fRun (X n) n T Tryz.f189 ia io)
end F_slices_IndexFunc_Row
end Go.Proofs.YtcpkhpboemfglaaGreatDoor

namespace Go.Proofs.YtcpkhpboemfglaaGreatDoor
open Go Go.Va Go.Proofs
namespace F_slices_ContainsFunc_Row
abbrev ia : List Ai := [.dat (.slice T_api_Row), .fn (.fn 156) []]
abbrev io : List (Nat × Oi) := [(4, .dat .bool)]
abbrev R : Type := DOut ia io
noncomputable def X (n : Nat) : Ctx := ⟨⟨tab, [F_slices_IndexFunc_Row.en n], 0, []⟩, 9, bnOf 0 ia⟩
noncomputable def T : CT := .o
noncomputable def f (n : Nat) (s_ : List (D_api_Row)) : Option R := fRun (X n) n T Tryz.f155 ia io (s_, ())
theorem e0 (n : Nat) (s_ : List (D_api_Row)) : f n s_ =
  bnd (F_slices_IndexFunc_Row.f n s_) fun u1 =>
  some ((hide (decide (u1.1 ≥ (0 : Int)))), ()) := (hideF_eq _).trans (by kernel_rfl)
theorem phi (n : Nat) : ∀ e ∈ (X n).c.Φ, EntryOk Tryz.prog e := allE_cons (mkEntry_ok (F_slices_IndexFunc_Row.ok n)) (allE_nil)
theorem ok (n : Nat) : FnOk Tryz.prog 155 ia io (fRun (X n) n T Tryz.f155 ia io) := tree_ok mixed tabIs (phi n) Tryz.func155 (by kernel_rfl) rfl
noncomputable def en (n : Nat) : Entry := mkEntry 155 ia io (fRun (X n) n T Tryz.f155 ia io)
end F_slices_ContainsFunc_Row
end Go.Proofs.YtcpkhpboemfglaaGreatDoor

namespace Go.Proofs.YtcpkhpboemfglaaGreatDoor
open Go Go.Va Go.Proofs
namespace F_wire_good_2
abbrev ia : List Ai := [.dat (.int .i64)]
abbrev io : List (Nat × Oi) := [(2, .dat .bool)]
abbrev R : Type := DOut ia io
noncomputable def X (n : Nat) : Ctx := ⟨⟨tab, [], 0, []⟩, 5, bnOf 0 ia⟩
noncomputable def T : CT := .o
noncomputable def f (n : Nat) (n_ : Int) : Option R := fRun (X n) n T Tryz.f159 ia io (n_, ())
theorem e0 (n : Nat) (n_ : Int) : f n n_ =
  some ((hide (decide (n_ < (0 : Int)))), ()) := (hideF_eq _).trans (by kernel_rfl)
theorem phi (n : Nat) : ∀ e ∈ (X n).c.Φ, EntryOk Tryz.prog e := allE_nil
theorem ok (n : Nat) : FnOk Tryz.prog 159 ia io (fRun (X n) n T Tryz.f159 ia io) := tree_ok mixed tabIs (phi n) Tryz.func159 (by kernel_rfl) rfl
noncomputable def en (n : Nat) : Entry := mkEntry 159 ia io (fRun (X n) n T Tryz.f159 ia io)
end F_wire_good_2
end Go.Proofs.YtcpkhpboemfglaaGreatDoor

namespace Go.Proofs.YtcpkhpboemfglaaGreatDoor
open Go Go.Va Go.Proofs
namespace F_slices_IndexFunc_int
abbrev ia : List Ai := [.dat (.slice (.int .i64)), .fn (.fn 159) []]
abbrev io : List (Nat × Oi) := [(4, .dat (.int .i64))]
abbrev R : Type := DOut ia io
noncomputable def X (n : Nat) : Ctx := ⟨⟨tab, [F_wire_good_2.en n], 0, []⟩, 19, bnOf 0 ia⟩
abbrev g1 : List Si := [.dat 0 (.slice (.int .i64)), .clo 1 (.fn 159) [], .dat 7 (.int .i64), .dat 8 (.int .i64)]
abbrev g2 : List Si := []
noncomputable def T : CT := (.s .o (.s (.s .o (.b (.l g1 .o))) (.r g2 .o)))
noncomputable def J1 (n : Nat) (m : Nat) : (List (Int)) × Int × Int × Unit → Option R := jL (X n) n T (bodyOf Tryz.f190) (endK ia io) g1 [1, 0, 1, 0] [] m
noncomputable def J2 (n : Nat) : Unit → Option R := jR (X n) n T (bodyOf Tryz.f190) (endK ia io) g2 [1, 1] []
noncomputable def f (n : Nat) (s_ : List (Int)) : Option R := fRun (X n) n T Tryz.f190 ia io (s_, ())
theorem e0 (n : Nat) (s_ : List (Int)) : f n s_ =
  J1 n n (s_, ((s_.length : Nat) : Int), 0, ()) := (hideF_eq _).trans (by kernel_rfl)
theorem e1 (n m : Nat) (s_ : List (Int)) (t7 : Int) (t8 : Int) : J1 n (m + 1) (s_, t7, t8, ()) =
  bIf ((hide (decide (t8 < t7)))) (
    gIf (0 ≤ t8 ∧ t8 < ((s_.length : Nat) : Int)) (
      bnd (F_wire_good_2.f n (List.getD s_ t8.toNat 0)) fun u1 =>
      bIf (u1.1) (
        some (t8, ())
        ) (
        J1 n m (s_, t7, (IntKind.i64.wrap (t8 + (1 : Int))), ())
        )
      )
    ) (
    J2 n (())
    ) := (hideF_eq _).trans (by kernel_rfl)
theorem e2 (n : Nat) : J2 n (()) =
  some ((-1), ()) := (hideF_eq _).trans (by kernel_rfl)
theorem phi (n : Nat) : ∀ e ∈ (X n).c.Φ, EntryOk Tryz.prog e := allE_cons (mkEntry_ok (F_wire_good_2.ok n)) (allE_nil)
theorem ok (n : Nat) : FnOk Tryz.prog 190 ia io (fRun (X n) n T Tryz.f190 ia io) := tree_ok mixed tabIs (phi n) Tryz.func190 (by kernel_rfl) rfl
noncomputable def en (n : Nat) : Entry := mkEntry 190 ia io (fRun (X n) n T Tryz.f190 ia io)
end F_slices_IndexFunc_int
end Go.Proofs.YtcpkhpboemfglaaGreatDoor

namespace Go.Proofs.YtcpkhpboemfglaaGreatDoor
open Go Go.Va Go.Proofs
namespace F_slices_ContainsFunc_int
abbrev ia : List Ai := [.dat (.slice (.int .i64)), .fn (.fn 159) []]
abbrev io : List (Nat × Oi) := [(4, .dat .bool)]
abbrev R : Type := DOut ia io
noncomputable def X (n : Nat) : Ctx := ⟨⟨tab, [F_slices_IndexFunc_int.en n], 0, []⟩, 9, bnOf 0 ia⟩
noncomputable def T : CT := .o
noncomputable def f (n : Nat) (s_ : List (Int)) : Option R := fRun (X n) n T Tryz.f158 ia io (s_, ())
theorem e0 (n : Nat) (s_ : List (Int)) : f n s_ =
  bnd (F_slices_IndexFunc_int.f n s_) fun u1 =>
  some ((hide (decide (u1.1 ≥ (0 : Int)))), ()) := (hideF_eq _).trans (by kernel_rfl)
theorem phi (n : Nat) : ∀ e ∈ (X n).c.Φ, EntryOk Tryz.prog e := allE_cons (mkEntry_ok (F_slices_IndexFunc_int.ok n)) (allE_nil)
theorem ok (n : Nat) : FnOk Tryz.prog 158 ia io (fRun (X n) n T Tryz.f158 ia io) := tree_ok mixed tabIs (phi n) Tryz.func158 (by kernel_rfl) rfl
noncomputable def en (n : Nat) : Entry := mkEntry 158 ia io (fRun (X n) n T Tryz.f158 ia io)
end F_slices_ContainsFunc_int
end Go.Proofs.YtcpkhpboemfglaaGreatDoor

namespace Go.Proofs.YtcpkhpboemfglaaGreatDoor
open Go Go.Va Go.Proofs
namespace F_wire_good_3
abbrev ia : List Ai := [.dat .str]
abbrev io : List (Nat × Oi) := [(2, .dat .bool)]
abbrev R : Type := DOut ia io
noncomputable def X (n : Nat) : Ctx := ⟨⟨tab, [], 0, []⟩, 6, bnOf 0 ia⟩
noncomputable def T : CT := .o
noncomputable def f (n : Nat) (s_ : ByteArray) : Option R := fRun (X n) n T Tryz.f161 ia io (s_, ())
theorem e0 (n : Nat) (s_ : ByteArray) : f n s_ =
  some ((hide (decide ((s_.size : Int) > (63 : Int)))), ()) := (hideF_eq _).trans (by kernel_rfl)
theorem phi (n : Nat) : ∀ e ∈ (X n).c.Φ, EntryOk Tryz.prog e := allE_nil
theorem ok (n : Nat) : FnOk Tryz.prog 161 ia io (fRun (X n) n T Tryz.f161 ia io) := tree_ok mixed tabIs (phi n) Tryz.func161 (by kernel_rfl) rfl
noncomputable def en (n : Nat) : Entry := mkEntry 161 ia io (fRun (X n) n T Tryz.f161 ia io)
end F_wire_good_3
end Go.Proofs.YtcpkhpboemfglaaGreatDoor

namespace Go.Proofs.YtcpkhpboemfglaaGreatDoor
open Go Go.Va Go.Proofs
namespace F_slices_IndexFunc_string
abbrev ia : List Ai := [.dat (.slice .str), .fn (.fn 161) []]
abbrev io : List (Nat × Oi) := [(4, .dat (.int .i64))]
abbrev R : Type := DOut ia io
noncomputable def X (n : Nat) : Ctx := ⟨⟨tab, [F_wire_good_3.en n], 0, []⟩, 19, bnOf 0 ia⟩
abbrev g1 : List Si := [.dat 0 (.slice .str), .clo 1 (.fn 161) [], .dat 7 (.int .i64), .dat 8 (.int .i64)]
abbrev g2 : List Si := []
noncomputable def T : CT := (.s .o (.s (.s .o (.b (.l g1 .o))) (.r g2 .o)))
noncomputable def J1 (n : Nat) (m : Nat) : (List (ByteArray)) × Int × Int × Unit → Option R := jL (X n) n T (bodyOf Tryz.f191) (endK ia io) g1 [1, 0, 1, 0] [] m
noncomputable def J2 (n : Nat) : Unit → Option R := jR (X n) n T (bodyOf Tryz.f191) (endK ia io) g2 [1, 1] []
noncomputable def f (n : Nat) (s_ : List (ByteArray)) : Option R := fRun (X n) n T Tryz.f191 ia io (s_, ())
theorem e0 (n : Nat) (s_ : List (ByteArray)) : f n s_ =
  J1 n n (s_, ((s_.length : Nat) : Int), 0, ()) := (hideF_eq _).trans (by kernel_rfl)
theorem e1 (n m : Nat) (s_ : List (ByteArray)) (t7 : Int) (t8 : Int) : J1 n (m + 1) (s_, t7, t8, ()) =
  bIf ((hide (decide (t8 < t7)))) (
    gIf (0 ≤ t8 ∧ t8 < ((s_.length : Nat) : Int)) (
      bnd (F_wire_good_3.f n (List.getD s_ t8.toNat (⟨#[]⟩ : ByteArray))) fun u1 =>
      bIf (u1.1) (
        some (t8, ())
        ) (
        J1 n m (s_, t7, (IntKind.i64.wrap (t8 + (1 : Int))), ())
        )
      )
    ) (
    J2 n (())
    ) := (hideF_eq _).trans (by kernel_rfl)
theorem e2 (n : Nat) : J2 n (()) =
  some ((-1), ()) := (hideF_eq _).trans (by kernel_rfl)
theorem phi (n : Nat) : ∀ e ∈ (X n).c.Φ, EntryOk Tryz.prog e := allE_cons (mkEntry_ok (F_wire_good_3.ok n)) (allE_nil)
theorem ok (n : Nat) : FnOk Tryz.prog 191 ia io (fRun (X n) n T Tryz.f191 ia io) := tree_ok mixed tabIs (phi n) Tryz.func191 (by kernel_rfl) rfl
noncomputable def en (n : Nat) : Entry := mkEntry 191 ia io (fRun (X n) n T Tryz.f191 ia io)
end F_slices_IndexFunc_string
end Go.Proofs.YtcpkhpboemfglaaGreatDoor

namespace Go.Proofs.YtcpkhpboemfglaaGreatDoor
open Go Go.Va Go.Proofs
namespace F_slices_ContainsFunc_string
abbrev ia : List Ai := [.dat (.slice .str), .fn (.fn 161) []]
abbrev io : List (Nat × Oi) := [(4, .dat .bool)]
abbrev R : Type := DOut ia io
noncomputable def X (n : Nat) : Ctx := ⟨⟨tab, [F_slices_IndexFunc_string.en n], 0, []⟩, 9, bnOf 0 ia⟩
noncomputable def T : CT := .o
noncomputable def f (n : Nat) (s_ : List (ByteArray)) : Option R := fRun (X n) n T Tryz.f160 ia io (s_, ())
theorem e0 (n : Nat) (s_ : List (ByteArray)) : f n s_ =
  bnd (F_slices_IndexFunc_string.f n s_) fun u1 =>
  some ((hide (decide (u1.1 ≥ (0 : Int)))), ()) := (hideF_eq _).trans (by kernel_rfl)
theorem phi (n : Nat) : ∀ e ∈ (X n).c.Φ, EntryOk Tryz.prog e := allE_cons (mkEntry_ok (F_slices_IndexFunc_string.ok n)) (allE_nil)
theorem ok (n : Nat) : FnOk Tryz.prog 160 ia io (fRun (X n) n T Tryz.f160 ia io) := tree_ok mixed tabIs (phi n) Tryz.func160 (by kernel_rfl) rfl
noncomputable def en (n : Nat) : Entry := mkEntry 160 ia io (fRun (X n) n T Tryz.f160 ia io)
end F_slices_ContainsFunc_string
end Go.Proofs.YtcpkhpboemfglaaGreatDoor

namespace Go.Proofs.YtcpkhpboemfglaaGreatDoor
open Go Go.Va Go.Proofs
namespace F_wire_sameRow
abbrev ia : List Ai := [.dat T_api_Row, .dat T_api_Row]
abbrev io : List (Nat × Oi) := [(4, .dat .bool)]
abbrev R : Type := DOut ia io
noncomputable def X (n : Nat) : Ctx := ⟨⟨tab, [F_object_SameVersion.en n], 0, []⟩, 31, bnOf 0 ia⟩
noncomputable def T : CT := .o
noncomputable def f (n : Nat) (a : D_api_Row) (b : D_api_Row) : Option R := fRun (X n) n T Tryz.f93 ia io (a, b, ())
theorem e0 (n : Nat) (a : D_api_Row) (b : D_api_Row) : f n a b =
  bIf ((hide (eqS a.1 b.1))) (
    bIf ((hide (a.2.1 == b.2.1))) (
      bIf ((hide (a.2.2.2.1 == b.2.2.2.1))) (
        bnd (F_object_SameVersion.f n a.2.2.1 b.2.2.1) fun u1 =>
        some (u1.1, ())
        ) (
        some (false, ())
        )
      ) (
      some (false, ())
      )
    ) (
    some (false, ())
    ) := (hideF_eq _).trans (by kernel_rfl)
theorem phi (n : Nat) : ∀ e ∈ (X n).c.Φ, EntryOk Tryz.prog e := allE_cons (mkEntry_ok (F_object_SameVersion.ok n)) (allE_nil)
theorem ok (n : Nat) : FnOk Tryz.prog 93 ia io (fRun (X n) n T Tryz.f93 ia io) := tree_ok mixed tabIs (phi n) Tryz.func93 (by kernel_rfl) rfl
noncomputable def en (n : Nat) : Entry := mkEntry 93 ia io (fRun (X n) n T Tryz.f93 ia io)
end F_wire_sameRow
end Go.Proofs.YtcpkhpboemfglaaGreatDoor

namespace Go.Proofs.YtcpkhpboemfglaaGreatDoor
open Go Go.Va Go.Proofs
namespace F_slices_EqualFunc_Row
abbrev ia : List Ai := [.dat (.slice T_api_Row), .dat (.slice T_api_Row), .fn (.fn 93) []]
abbrev io : List (Nat × Oi) := [(6, .dat .bool)]
abbrev R : Type := DOut ia io
noncomputable def X (n : Nat) : Ctx := ⟨⟨tab, [F_wire_sameRow.en n], 0, []⟩, 32, bnOf 0 ia⟩
abbrev g1 : List Si := [.dat 1 (.slice T_api_Row), .clo 2 (.fn 93) [], .dat 15 (.slice T_api_Row), .dat 16 (.int .i64), .dat 17 (.int .i64)]
abbrev g2 : List Si := []
noncomputable def T : CT := (.s .o (.s .o (.s (.s .o (.b (.l g1 .o))) (.r g2 .o))))
noncomputable def J1 (n : Nat) (m : Nat) : (List (D_api_Row)) × (List (D_api_Row)) × Int × Int × Unit → Option R := jL (X n) n T (bodyOf Tryz.f92) (endK ia io) g1 [1, 1, 0, 1, 0] [] m
noncomputable def J2 (n : Nat) : Unit → Option R := jR (X n) n T (bodyOf Tryz.f92) (endK ia io) g2 [1, 1, 1] []
noncomputable def f (n : Nat) (s1 : List (D_api_Row)) (s2 : List (D_api_Row)) : Option R := fRun (X n) n T Tryz.f92 ia io (s1, s2, ())
theorem e0 (n : Nat) (s1 : List (D_api_Row)) (s2 : List (D_api_Row)) : f n s1 s2 =
  bIf ((hide (((s1.length : Nat) : Int) != ((s2.length : Nat) : Int)))) (
    some (false, ())
    ) (
    J1 n n (s2, s1, ((s1.length : Nat) : Int), 0, ())
    ) := (hideF_eq _).trans (by kernel_rfl)
theorem e1 (n m : Nat) (s2 : List (D_api_Row)) (t15 : List (D_api_Row)) (t16 : Int) (t17 : Int) : J1 n (m + 1) (s2, t15, t16, t17, ()) =
  bIf ((hide (decide (t17 < t16)))) (
    gIf (0 ≤ t17 ∧ t17 < ((t15.length : Nat) : Int)) (
      gIf (0 ≤ t17 ∧ t17 < ((s2.length : Nat) : Int)) (
        bnd (F_wire_sameRow.f n (List.getD t15 t17.toNat (Va.dflt T_api_Row)) (List.getD s2 t17.toNat (Va.dflt T_api_Row))) fun u1 =>
        bIf ((!u1.1)) (
          some (false, ())
          ) (
          J1 n m (s2, t15, t16, (IntKind.i64.wrap (t17 + (1 : Int))), ())
          )
        )
      )
    ) (
    J2 n (())
    ) := (hideF_eq _).trans (by kernel_rfl)
theorem e2 (n : Nat) : J2 n (()) =
  some (true, ()) := (hideF_eq _).trans (by kernel_rfl)
theorem phi (n : Nat) : ∀ e ∈ (X n).c.Φ, EntryOk Tryz.prog e := allE_cons (mkEntry_ok (F_wire_sameRow.ok n)) (allE_nil)
theorem ok (n : Nat) : FnOk Tryz.prog 92 ia io (fRun (X n) n T Tryz.f92 ia io) := tree_ok mixed tabIs (phi n) Tryz.func92 (by kernel_rfl) rfl
noncomputable def en (n : Nat) : Entry := mkEntry 92 ia io (fRun (X n) n T Tryz.f92 ia io)
end F_slices_EqualFunc_Row
end Go.Proofs.YtcpkhpboemfglaaGreatDoor

namespace Go.Proofs.YtcpkhpboemfglaaGreatDoor
open Go Go.Va Go.Proofs
namespace F_slices_Equal_int
abbrev ia : List Ai := [.dat (.slice (.int .i64)), .dat (.slice (.int .i64))]
abbrev io : List (Nat × Oi) := [(4, .dat .bool)]
abbrev R : Type := DOut ia io
noncomputable def X (n : Nat) : Ctx := ⟨⟨tab, [], 0, []⟩, 26, bnOf 0 ia⟩
abbrev g1 : List Si := [.dat 0 (.slice (.int .i64)), .dat 1 (.slice (.int .i64)), .dat 12 (.int .i64), .dat 13 (.int .i64)]
abbrev g2 : List Si := []
noncomputable def T : CT := (.s .o (.s .o (.s (.s .o (.b (.l g1 .o))) (.r g2 .o))))
noncomputable def J1 (n : Nat) (m : Nat) : (List (Int)) × (List (Int)) × Int × Int × Unit → Option R := jL (X n) n T (bodyOf Tryz.f94) (endK ia io) g1 [1, 1, 0, 1, 0] [] m
noncomputable def J2 (n : Nat) : Unit → Option R := jR (X n) n T (bodyOf Tryz.f94) (endK ia io) g2 [1, 1, 1] []
noncomputable def f (n : Nat) (s1 : List (Int)) (s2 : List (Int)) : Option R := fRun (X n) n T Tryz.f94 ia io (s1, s2, ())
theorem e0 (n : Nat) (s1 : List (Int)) (s2 : List (Int)) : f n s1 s2 =
  bIf ((hide (((s1.length : Nat) : Int) != ((s2.length : Nat) : Int)))) (
    some (false, ())
    ) (
    J1 n n (s1, s2, ((s1.length : Nat) : Int), 0, ())
    ) := (hideF_eq _).trans (by kernel_rfl)
theorem e1 (n m : Nat) (s1 : List (Int)) (s2 : List (Int)) (t12 : Int) (t13 : Int) : J1 n (m + 1) (s1, s2, t12, t13, ()) =
  bIf ((hide (decide (t13 < t12)))) (
    gIf (0 ≤ t13 ∧ t13 < ((s1.length : Nat) : Int)) (
      gIf (0 ≤ t13 ∧ t13 < ((s2.length : Nat) : Int)) (
        bIf ((hide ((List.getD s1 t13.toNat 0) != (List.getD s2 t13.toNat 0)))) (
          some (false, ())
          ) (
          J1 n m (s1, s2, t12, (IntKind.i64.wrap (t13 + (1 : Int))), ())
          )
        )
      )
    ) (
    J2 n (())
    ) := (hideF_eq _).trans (by kernel_rfl)
theorem e2 (n : Nat) : J2 n (()) =
  some (true, ()) := (hideF_eq _).trans (by kernel_rfl)
theorem phi (n : Nat) : ∀ e ∈ (X n).c.Φ, EntryOk Tryz.prog e := allE_nil
theorem ok (n : Nat) : FnOk Tryz.prog 94 ia io (fRun (X n) n T Tryz.f94 ia io) := tree_ok mixed tabIs (phi n) Tryz.func94 (by kernel_rfl) rfl
noncomputable def en (n : Nat) : Entry := mkEntry 94 ia io (fRun (X n) n T Tryz.f94 ia io)
end F_slices_Equal_int
end Go.Proofs.YtcpkhpboemfglaaGreatDoor

namespace Go.Proofs.YtcpkhpboemfglaaGreatDoor
open Go Go.Va Go.Proofs
namespace F_slices_Equal_string
abbrev ia : List Ai := [.dat (.slice .str), .dat (.slice .str)]
abbrev io : List (Nat × Oi) := [(4, .dat .bool)]
abbrev R : Type := DOut ia io
noncomputable def X (n : Nat) : Ctx := ⟨⟨tab, [], 0, []⟩, 26, bnOf 0 ia⟩
abbrev g1 : List Si := [.dat 0 (.slice .str), .dat 1 (.slice .str), .dat 12 (.int .i64), .dat 13 (.int .i64)]
abbrev g2 : List Si := []
noncomputable def T : CT := (.s .o (.s .o (.s (.s .o (.b (.l g1 .o))) (.r g2 .o))))
noncomputable def J1 (n : Nat) (m : Nat) : (List (ByteArray)) × (List (ByteArray)) × Int × Int × Unit → Option R := jL (X n) n T (bodyOf Tryz.f95) (endK ia io) g1 [1, 1, 0, 1, 0] [] m
noncomputable def J2 (n : Nat) : Unit → Option R := jR (X n) n T (bodyOf Tryz.f95) (endK ia io) g2 [1, 1, 1] []
noncomputable def f (n : Nat) (s1 : List (ByteArray)) (s2 : List (ByteArray)) : Option R := fRun (X n) n T Tryz.f95 ia io (s1, s2, ())
theorem e0 (n : Nat) (s1 : List (ByteArray)) (s2 : List (ByteArray)) : f n s1 s2 =
  bIf ((hide (((s1.length : Nat) : Int) != ((s2.length : Nat) : Int)))) (
    some (false, ())
    ) (
    J1 n n (s1, s2, ((s1.length : Nat) : Int), 0, ())
    ) := (hideF_eq _).trans (by kernel_rfl)
theorem e1 (n m : Nat) (s1 : List (ByteArray)) (s2 : List (ByteArray)) (t12 : Int) (t13 : Int) : J1 n (m + 1) (s1, s2, t12, t13, ()) =
  bIf ((hide (decide (t13 < t12)))) (
    gIf (0 ≤ t13 ∧ t13 < ((s1.length : Nat) : Int)) (
      gIf (0 ≤ t13 ∧ t13 < ((s2.length : Nat) : Int)) (
        bIf ((hide (!eqS (List.getD s1 t13.toNat (⟨#[]⟩ : ByteArray)) (List.getD s2 t13.toNat (⟨#[]⟩ : ByteArray))))) (
          some (false, ())
          ) (
          J1 n m (s1, s2, t12, (IntKind.i64.wrap (t13 + (1 : Int))), ())
          )
        )
      )
    ) (
    J2 n (())
    ) := (hideF_eq _).trans (by kernel_rfl)
theorem e2 (n : Nat) : J2 n (()) =
  some (true, ()) := (hideF_eq _).trans (by kernel_rfl)
theorem phi (n : Nat) : ∀ e ∈ (X n).c.Φ, EntryOk Tryz.prog e := allE_nil
theorem ok (n : Nat) : FnOk Tryz.prog 95 ia io (fRun (X n) n T Tryz.f95 ia io) := tree_ok mixed tabIs (phi n) Tryz.func95 (by kernel_rfl) rfl
noncomputable def en (n : Nat) : Entry := mkEntry 95 ia io (fRun (X n) n T Tryz.f95 ia io)
end F_slices_Equal_string
end Go.Proofs.YtcpkhpboemfglaaGreatDoor

namespace Go.Proofs.YtcpkhpboemfglaaGreatDoor
open Go Go.Va Go.Proofs
namespace F_wire_Alike
abbrev ia : List Ai := [.dat T_api_Reply, .dat T_api_Reply]
abbrev io : List (Nat × Oi) := [(4, .dat .bool)]
abbrev R : Type := DOut ia io
noncomputable def X (n : Nat) : Ctx := ⟨⟨tab, [F_object_SameVersion.en n, F_bytes_Equal.en n, F_slices_EqualFunc_Row.en n, F_slices_Equal_int.en n, F_slices_Equal_string.en n], 0, []⟩, 59, bnOf 0 ia⟩
noncomputable def T : CT := .o
noncomputable def f (n : Nat) (a : D_api_Reply) (b : D_api_Reply) : Option R := fRun (X n) n T Tryz.f29 ia io (a, b, ())
theorem e0 (n : Nat) (a : D_api_Reply) (b : D_api_Reply) : f n a b =
  bIf ((hide (a.1 == b.1))) (
    bIf ((hide (a.2.1 == b.2.1))) (
      bIf ((hide (a.2.2.2.2.2.1 == b.2.2.2.2.2.1))) (
        bnd (F_bytes_Equal.f n a.2.2.1 b.2.2.1) fun u1 =>
        bIf (u1.1) (
          bnd (F_object_SameVersion.f n a.2.2.2.1 b.2.2.2.1) fun u2 =>
          bIf (u2.1) (
            bnd (F_slices_EqualFunc_Row.f n a.2.2.2.2.1 b.2.2.2.2.1) fun u3 =>
            bIf (u3.1) (
              bnd (F_slices_Equal_int.f n a.2.2.2.2.2.2.1 b.2.2.2.2.2.2.1) fun u4 =>
              bIf (u4.1) (
                bnd (F_slices_Equal_string.f n a.2.2.2.2.2.2.2.1 b.2.2.2.2.2.2.2.1) fun u5 =>
                some (u5.1, ())
                ) (
                some (false, ())
                )
              ) (
              some (false, ())
              )
            ) (
            some (false, ())
            )
          ) (
          some (false, ())
          )
        ) (
        some (false, ())
        )
      ) (
      some (false, ())
      )
    ) (
    some (false, ())
    ) := (hideF_eq _).trans (by kernel_rfl)
theorem phi (n : Nat) : ∀ e ∈ (X n).c.Φ, EntryOk Tryz.prog e := allE_cons (mkEntry_ok (F_object_SameVersion.ok n)) (allE_cons (mkEntry_ok (F_bytes_Equal.ok n)) (allE_cons (mkEntry_ok (F_slices_EqualFunc_Row.ok n)) (allE_cons (mkEntry_ok (F_slices_Equal_int.ok n)) (allE_cons (mkEntry_ok (F_slices_Equal_string.ok n)) (allE_nil)))))
theorem ok (n : Nat) : FnOk Tryz.prog 29 ia io (fRun (X n) n T Tryz.f29 ia io) := tree_ok mixed tabIs (phi n) Tryz.func29 (by kernel_rfl) rfl
noncomputable def en (n : Nat) : Entry := mkEntry 29 ia io (fRun (X n) n T Tryz.f29 ia io)
end F_wire_Alike
end Go.Proofs.YtcpkhpboemfglaaGreatDoor

namespace Go.Proofs.YtcpkhpboemfglaaGreatDoor
open Go Go.Va Go.Proofs
namespace F_wire_good
abbrev ia : List Ai := [.dat T_api_Reply]
abbrev io : List (Nat × Oi) := [(2, .dat .bool)]
abbrev R : Type := DOut ia io
noncomputable def X (n : Nat) : Ctx := ⟨⟨tab, [F_wire_Alike.en n, F_object_Good.en n, F_wire_none.en n, F_slices_ContainsFunc_Row.en n, F_slices_ContainsFunc_int.en n, F_slices_ContainsFunc_string.en n], 0, []⟩, 67, bnOf 0 ia⟩
abbrev g1 : List Si := [.ref 1 1 T_api_Reply, .box 1 (.d T_api_Reply)]
abbrev g2 : List Si := [.ref 1 1 T_api_Reply, .box 1 (.d T_api_Reply)]
abbrev g3 : List Si := [.ref 1 1 T_api_Reply, .box 1 (.d T_api_Reply)]
noncomputable def T : CT := (.s .o (.s .o (.r g1 (.s .o (.s .o (.r g2 (.s .o (.r g3 .o))))))))
noncomputable def J1 (n : Nat) : D_api_Reply × Unit → Option R := jR (X n) n T (bodyOf Tryz.f82) (endK ia io) g1 [1, 1] []
noncomputable def J2 (n : Nat) : D_api_Reply × Unit → Option R := jR (X n) n T (bodyOf Tryz.f82) (endK ia io) g2 [1, 1, 1, 1] []
noncomputable def J3 (n : Nat) : D_api_Reply × Unit → Option R := jR (X n) n T (bodyOf Tryz.f82) (endK ia io) g3 [1, 1, 1, 1, 1] []
noncomputable def f (n : Nat) (r : D_api_Reply) : Option R := fRun (X n) n T Tryz.f82 ia io (r, ())
theorem e0 (n : Nat) (r : D_api_Reply) : f n r =
  bIf ((hide (decide (r.1 < (0 : Int))))) (
    some (false, ())
    ) (
    bIf ((hide (decide (r.1 > (18 : Int))))) (
      some (false, ())
      ) (
      J1 n (r, ())
      )
    ) := (hideF_eq _).trans (by kernel_rfl)
theorem e1 (n : Nat) (r : D_api_Reply) : J1 n (r, ()) =
  bIf ((hide (r.1 != (0 : Int)))) (
    bnd (F_wire_Alike.f n r (r.1, (0, ([], ((0, (false, (0, (0, ((List.replicate 32 0), (0, ((0, (0, (false, ()))), ([], ())))))))), ([], (false, ([], ([], ()))))))))) fun u1 =>
    some (u1.1, ())
    ) (
    bIf ((hide (decide (((r.2.2.1.length : Nat) : Int) > (16384 : Int))))) (
      some (false, ())
      ) (
      bnd (F_wire_none.f n r.2.2.2.1) fun u2 =>
      bIf ((!u2.1)) (
        bnd (F_object_Good.f n r.2.2.2.1) fun u3 =>
        bIf ((!u3.1)) (
          some (false, ())
          ) (
          J2 n (r, ())
          )
        ) (
        J2 n (r, ())
        )
      )
    ) := (hideF_eq _).trans (by kernel_rfl)
theorem e2 (n : Nat) (r : D_api_Reply) : J2 n (r, ()) =
  bIf ((hide (decide (((r.2.2.2.2.1.length : Nat) : Int) > (100 : Int))))) (
    some (false, ())
    ) (
    bIf ((hide (decide (((r.2.2.2.2.2.2.1.length : Nat) : Int) > (8 : Int))))) (
      some (false, ())
      ) (
      bIf ((hide (decide (((r.2.2.2.2.2.2.2.1.length : Nat) : Int) > (16 : Int))))) (
        some (false, ())
        ) (
        J3 n (r, ())
        )
      )
    ) := (hideF_eq _).trans (by kernel_rfl)
theorem e3 (n : Nat) (r : D_api_Reply) : J3 n (r, ()) =
  bnd (F_slices_ContainsFunc_Row.f n r.2.2.2.2.1) fun u1 =>
  bIf ((!u1.1)) (
    bnd (F_slices_ContainsFunc_int.f n r.2.2.2.2.2.2.1) fun u2 =>
    bIf ((!u2.1)) (
      bnd (F_slices_ContainsFunc_string.f n r.2.2.2.2.2.2.2.1) fun u3 =>
      some ((!u3.1), ())
      ) (
      some (false, ())
      )
    ) (
    some (false, ())
    ) := (hideF_eq _).trans (by kernel_rfl)
theorem phi (n : Nat) : ∀ e ∈ (X n).c.Φ, EntryOk Tryz.prog e := allE_cons (mkEntry_ok (F_wire_Alike.ok n)) (allE_cons (mkEntry_ok (F_object_Good.ok n)) (allE_cons (mkEntry_ok (F_wire_none.ok n)) (allE_cons (mkEntry_ok (F_slices_ContainsFunc_Row.ok n)) (allE_cons (mkEntry_ok (F_slices_ContainsFunc_int.ok n)) (allE_cons (mkEntry_ok (F_slices_ContainsFunc_string.ok n)) (allE_nil))))))
theorem ok (n : Nat) : FnOk Tryz.prog 82 ia io (fRun (X n) n T Tryz.f82 ia io) := tree_ok mixed tabIs (phi n) Tryz.func82 (by kernel_rfl) rfl
noncomputable def en (n : Nat) : Entry := mkEntry 82 ia io (fRun (X n) n T Tryz.f82 ia io)
end F_wire_good
end Go.Proofs.YtcpkhpboemfglaaGreatDoor

namespace Go.Proofs.YtcpkhpboemfglaaGreatDoor
open Go Go.Va Go.Proofs
namespace F_wire_writer_rows
abbrev ia : List Ai := [.fn (.str 2) [(.p (.r 0 (.int .u8)) (.d .unit))], .dat (.slice T_api_Row)]
abbrev io : List (Nat × Oi) := []
abbrev R : Type := DOut ia io
noncomputable def X (n : Nat) : Ctx := ⟨⟨tab, [F_pack_Writer_Num.en n, F_pack_Writer_Text.en n, F_pack_Writer_Flag.en n, F_entry_Writer_Version.en n], 0, []⟩, 43, bnOf 0 ia⟩
abbrev g1 : List Si := [.ref 2 2 T_wire_reader, .dat 13 (.slice T_api_Row), .dat 14 (.int .i64), .dat 15 (.int .i64), .box 2 (.p (.p (.al 500000 T_pack_Writer) (.d .unit)) (.d .unit)), .box 500000 (.p (.r 100000500000000 (.int .u8)) (.d .unit))]
noncomputable def T : CT := (.s .o (.s .o (.s .o (.b (.l g1 .o)))))
noncomputable def J1 (n : Nat) (m : Nat) : (List (D_api_Row)) × Int × Int × D_wire_reader × D_pack_Writer × Unit → Option R := jL (X n) n T (bodyOf Tryz.f86) (endK ia io) g1 [1, 1, 1, 0] [] m
noncomputable def f (n : Nat) (wc0 : D_pack_Writer) (list : List (D_api_Row)) : Option R := fRun (X n) n T Tryz.f86 ia io (wc0, list, ())
theorem e0 (n : Nat) (wc0 : D_pack_Writer) (list : List (D_api_Row)) : f n wc0 list =
  bnd (F_pack_Writer_Num.f n (wc0.1, wc0.2) (IntKind.u64.wrap ((list.length : Nat) : Int))) fun u1 =>
  J1 n n (list, ((list.length : Nat) : Int), 0, (((), ()), ()), (u1.1.1, u1.1.2), ()) := (hideF_eq _).trans (by kernel_rfl)
theorem e1 (n m : Nat) (t13 : List (D_api_Row)) (t14 : Int) (t15 : Int) (w_ : D_wire_reader) (b500000 : D_pack_Writer) : J1 n (m + 1) (t13, t14, t15, w_, b500000, ()) =
  bIf ((hide (decide (t15 < t14)))) (
    gIf (0 ≤ t15 ∧ t15 < ((t13.length : Nat) : Int)) (
      bnd (F_pack_Writer_Text.f n (b500000.1, b500000.2) ((List.getD t13 t15.toNat (Va.dflt T_api_Row)).1)) fun u1 =>
      bnd (F_pack_Writer_Flag.f n (u1.1.1, u1.1.2) (((List.getD t13 t15.toNat (Va.dflt T_api_Row)).2).1)) fun u2 =>
      bIf ((!(((List.getD t13 t15.toNat (Va.dflt T_api_Row)).2).1))) (
        bnd (F_entry_Writer_Version.f n (u2.1.1, u2.1.2) ((((List.getD t13 t15.toNat (Va.dflt T_api_Row)).2).2).1)) fun u3 =>
        bnd (F_pack_Writer_Flag.f n (u3.1.1, u3.1.2) (((((List.getD t13 t15.toNat (Va.dflt T_api_Row)).2).2).2).1)) fun u4 =>
        J1 n m (t13, t14, (IntKind.i64.wrap (t15 + (1 : Int))), (((), w_.1.2), w_.2), (u4.1.1, u4.1.2), ())
        ) (
        J1 n m (t13, t14, (IntKind.i64.wrap (t15 + (1 : Int))), (((), w_.1.2), w_.2), (u2.1.1, u2.1.2), ())
        )
      )
    ) (
    some ((b500000.1, b500000.2), ())
    ) := (hideF_eq _).trans (by kernel_rfl)
theorem phi (n : Nat) : ∀ e ∈ (X n).c.Φ, EntryOk Tryz.prog e := allE_cons (mkEntry_ok (F_pack_Writer_Num.ok n)) (allE_cons (mkEntry_ok (F_pack_Writer_Text.ok n)) (allE_cons (mkEntry_ok (F_pack_Writer_Flag.ok n)) (allE_cons (mkEntry_ok (F_entry_Writer_Version.ok n)) (allE_nil))))
theorem ok (n : Nat) : FnOk Tryz.prog 86 ia io (fRun (X n) n T Tryz.f86 ia io) := tree_ok mixed tabIs (phi n) Tryz.func86 (by kernel_rfl) rfl
noncomputable def en (n : Nat) : Entry := mkEntry 86 ia io (fRun (X n) n T Tryz.f86 ia io)
end F_wire_writer_rows
end Go.Proofs.YtcpkhpboemfglaaGreatDoor

