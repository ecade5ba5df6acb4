/-
  What the functions compute, by the abstract interpreter.
-/
import Derived.Test.YtcpkhpboemfglaaGreatDoorVaTree
import Derived.Test.YtcpkhpboemfglaaGreatDoorChecked
import Derived.Lib.LaidU8T
import Derived.Test.YtcpkhpboemfglaaGreatDoorVaLeaf
import Derived.Shelf.Unicode.ValidAny
import Derived.Shelf.Small.Strs
import Derived.Shelf.Strings.Split
import Derived.Shelf.Strings.SlTrimAscii
set_option linter.unusedVariables false
set_option linter.unusedSimpArgs false

namespace Go.Proofs.YtcpkhpboemfglaaGreatDoor
open Go Go.Va Go.Proofs
abbrev T_entry_Reader : Ty := (.pair (.opq 0) .unit)
abbrev D_entry_Reader : Type := Unit × Unit
abbrev T_runtime_PanicNilError : Ty := (.pair (.arr 0 (.opq 0)) .unit)
abbrev D_runtime_PanicNilError : Type := (List (Unit)) × Unit
abbrev T_pack_Writer : Ty := (.pair (.slice (.int .u8)) .unit)
abbrev D_pack_Writer : Type := (List (Int)) × Unit
abbrev T_api_Tag : Ty := (.pair .str (.pair .str .unit))
abbrev D_api_Tag : Type := ByteArray × ByteArray × Unit
abbrev T_wire_reader : Ty := (.pair T_entry_Reader .unit)
abbrev D_wire_reader : Type := D_entry_Reader × Unit
abbrev T_runtime_errorAddressString : Ty := (.pair .str (.pair (.int .u64) .unit))
abbrev D_runtime_errorAddressString : Type := ByteArray × Int × Unit
abbrev T_unicode_utf8_acceptRange : Ty := (.pair (.int .u8) (.pair (.int .u8) .unit))
abbrev D_unicode_utf8_acceptRange : Type := Int × Int × Unit
abbrev T_glob_piece : Ty := (.pair (.int .i64) (.pair (.int .u8) .unit))
abbrev D_glob_piece : Type := Int × Int × Unit
abbrev T_api_Default : Ty := (.pair (.int .i64) (.pair (.int .i64) .unit))
abbrev D_api_Default : Type := Int × Int × Unit
abbrev T_pack_Reader : Ty := (.pair (.slice (.int .u8)) (.pair (.int .i64) .unit))
abbrev D_pack_Reader : Type := (List (Int)) × Int × Unit
abbrev T_api_Spot : Ty := (.pair .str T_runtime_errorAddressString)
abbrev D_api_Spot : Type := ByteArray × ByteArray × Int × Unit
abbrev T_api_Lock : Ty := (.pair (.int .i64) (.pair (.int .i64) (.pair .bool .unit)))
abbrev D_api_Lock : Type := Int × Int × Bool × Unit
abbrev T_api_Grant : Ty := (.pair .bool (.pair .str T_api_Tag))
abbrev D_api_Grant : Type := Bool × ByteArray × ByteArray × ByteArray × Unit
abbrev T_runtime_TypeAssertionError : Ty := (.pair (.opq 0) (.pair (.opq 0) (.pair (.opq 0) (.pair .str .unit))))
abbrev D_runtime_TypeAssertionError : Type := Unit × Unit × Unit × ByteArray × Unit
abbrev T_runtime_boundsError : Ty := (.pair (.int .i64) (.pair (.int .i64) (.pair .bool (.pair (.int .u8) .unit))))
abbrev D_runtime_boundsError : Type := Int × Int × Bool × Int × Unit
abbrev T_api_Part : Ty := (.pair (.int .i64) (.pair (.int .i64) (.pair (.int .u64) (.pair (.arr 32 (.int .u8)) .unit))))
abbrev D_api_Part : Type := Int × Int × Int × (List (Int)) × Unit
abbrev T_api_Rule : Ty := (.pair .str (.pair (.slice T_api_Tag) T_api_Lock))
abbrev D_api_Rule : Type := ByteArray × (List (D_api_Tag)) × Int × Int × Bool × Unit
abbrev T_internal_abi_Type : Ty := (.pair (.int .u64) (.pair (.int .u64) (.pair (.int .u32) (.pair (.int .u8) (.pair (.int .u8) (.pair (.int .u8) (.pair (.int .u8) (.pair (.opq 1) (.pair (.opq 0) (.pair (.int .i32) (.pair (.int .i32) .unit)))))))))))
abbrev D_internal_abi_Type : Type := Int × Int × Int × Int × Int × Int × Int × Unit × Unit × Int × Int × Unit
abbrev T_api_Version : Ty := (.pair (.int .u64) (.pair .bool (.pair (.int .i64) (.pair (.int .u64) (.pair (.arr 32 (.int .u8)) (.pair (.int .i64) (.pair T_api_Lock (.pair (.slice T_api_Tag) .unit))))))))
abbrev D_api_Version : Type := Int × Bool × Int × Int × (List (Int)) × Int × D_api_Lock × (List (D_api_Tag)) × Unit
abbrev T_api_Row : Ty := (.pair .str (.pair .bool (.pair T_api_Version (.pair .bool .unit))))
abbrev D_api_Row : Type := ByteArray × Bool × D_api_Version × Bool × Unit
abbrev T_api_Request : Ty := (.pair (.int .i64) (.pair .str (.pair .str (.pair .str (.pair (.int .u64) (.pair (.slice (.int .u8)) (.pair (.slice T_api_Tag) (.pair T_api_Lock (.pair .bool (.pair T_api_Default (.pair (.slice T_api_Rule) (.pair (.slice T_api_Grant) (.pair (.int .i64) (.pair (.slice (.int .i64)) (.pair .str (.pair .str (.pair .str (.pair T_api_Spot (.pair (.int .i64) .unit)))))))))))))))))))
abbrev D_api_Request : Type := Int × ByteArray × ByteArray × ByteArray × Int × (List (Int)) × (List (D_api_Tag)) × D_api_Lock × Bool × D_api_Default × (List (D_api_Rule)) × (List (D_api_Grant)) × Int × (List (Int)) × ByteArray × ByteArray × ByteArray × D_api_Spot × Int × Unit
abbrev T_api_Reply : Ty := (.pair (.int .i64) (.pair (.int .u64) (.pair (.slice (.int .u8)) (.pair T_api_Version (.pair (.slice T_api_Row) (.pair .bool (.pair (.slice (.int .i64)) (.pair (.slice .str) .unit))))))))
abbrev D_api_Reply : Type := Int × Int × (List (Int)) × D_api_Version × (List (D_api_Row)) × Bool × (List (Int)) × (List (ByteArray)) × Unit
abbrev T_acts_strip : Ty := (.pair T_api_Request (.pair .bool .unit))
abbrev D_acts_strip : Type := D_api_Request × Bool × Unit
abbrev T_api_Entry : Ty := (.pair (.int .i64) (.pair (.int .i64) (.pair .str (.pair .str (.pair (.int .u64) (.pair T_api_Version (.pair T_api_Lock (.pair (.slice T_api_Tag) (.pair T_api_Default (.pair (.slice T_api_Rule) (.pair (.slice T_api_Grant) (.pair T_api_Part .unit))))))))))))
abbrev D_api_Entry : Type := Int × Int × ByteArray × ByteArray × Int × D_api_Version × D_api_Lock × (List (D_api_Tag)) × D_api_Default × (List (D_api_Rule)) × (List (D_api_Grant)) × D_api_Part × Unit
noncomputable def tab : List (Nat × TE) := [(1, ⟨(.opq 1), 0⟩), (2, ⟨(.int .i64), 0⟩), (3, ⟨(.int .i64), 0⟩), (4, ⟨.bool, 0⟩), (5, ⟨(.int .u8), 0⟩), (9, ⟨.str, 0⟩), (22, ⟨(.slice T_api_Entry), 344⟩), (23, ⟨(.slice (.int .u8)), 1⟩), (24, ⟨(.int .i64), 0⟩), (30, ⟨(.opq 1), 0⟩), (31, ⟨(.int .u64), 0⟩), (32, ⟨(.arr 32 (.int .u8)), 0⟩), (33, ⟨(.arr 32 (.int .u8)), 0⟩), (34, ⟨T_api_Lock, 0⟩), (35, ⟨T_api_Lock, 0⟩), (36, ⟨(.slice T_api_Tag), 32⟩), (37, ⟨T_api_Version, 0⟩), (38, ⟨T_api_Version, 0⟩), (39, ⟨T_api_Default, 0⟩), (40, ⟨T_api_Default, 0⟩), (41, ⟨(.slice T_api_Rule), 64⟩), (42, ⟨(.slice T_api_Grant), 56⟩), (43, ⟨T_api_Part, 0⟩), (44, ⟨T_api_Part, 0⟩), (45, ⟨T_api_Entry, 0⟩), (46, ⟨T_api_Entry, 0⟩), (53, ⟨(.int .u16), 0⟩), (55, ⟨(.slice (.int .i64)), 8⟩), (56, ⟨T_api_Spot, 0⟩), (57, ⟨T_api_Spot, 0⟩), (58, ⟨T_api_Request, 0⟩), (59, ⟨T_api_Request, 0⟩), (66, ⟨(.slice T_api_Row), 152⟩), (67, ⟨(.slice .str), 16⟩), (68, ⟨T_api_Reply, 0⟩), (69, ⟨T_api_Reply, 0⟩), (79, ⟨(.opq 0), 0⟩), (80, ⟨T_entry_Reader, 0⟩), (81, ⟨T_entry_Reader, 0⟩), (89, ⟨(.opq 1), 0⟩), (104, ⟨T_api_Grant, 0⟩), (105, ⟨T_api_Grant, 0⟩), (106, ⟨(.opq 0), 0⟩), (107, ⟨T_entry_Reader, 0⟩), (108, ⟨T_entry_Reader, 0⟩), (117, ⟨T_wire_reader, 0⟩), (118, ⟨T_wire_reader, 0⟩), (122, ⟨(.opq 0), 0⟩), (125, ⟨T_wire_reader, 0⟩), (126, ⟨T_wire_reader, 0⟩), (134, ⟨T_api_Row, 0⟩), (135, ⟨T_api_Row, 0⟩), (137, ⟨(.opq 1), 0⟩), (155, ⟨T_pack_Writer, 0⟩), (156, ⟨T_pack_Writer, 0⟩), (165, ⟨T_api_Tag, 0⟩), (166, ⟨T_api_Tag, 0⟩), (167, ⟨T_api_Rule, 0⟩), (168, ⟨T_api_Rule, 0⟩), (170, ⟨(.opq 1), 0⟩), (173, ⟨T_pack_Reader, 0⟩), (174, ⟨T_pack_Reader, 0⟩), (187, ⟨(.opq 1), 0⟩), (189, ⟨(.opq 1), 0⟩), (193, ⟨(.opq 0), 0⟩), (194, ⟨T_acts_strip, 0⟩), (195, ⟨T_acts_strip, 0⟩), (198, ⟨(.int .u64), 0⟩), (204, ⟨(.opq 1), 0⟩), (206, ⟨(.opq 1), 0⟩), (208, ⟨(.slice T_glob_piece), 16⟩), (231, ⟨(.slice T_glob_piece), 16⟩), (234, ⟨T_glob_piece, 0⟩), (235, ⟨T_glob_piece, 0⟩), (246, ⟨T_glob_piece, 0⟩), (247, ⟨T_glob_piece, 0⟩)]
noncomputable def firstCells : List Value := Lib.firstTab.map fun z => Value.int .u8 z
noncomputable def acceptCells : List Value := (List.range 16).flatMap fun i => [Value.int .u8 (Lib.accLo i), Value.int .u8 (Lib.accHi i)]
noncomputable instance : Gl := ⟨[(0, fun cs => cs = firstCells), (1, fun cs => cs = acceptCells), (2, fun cs => ∃ m, cs = [.int .i64 m])]⟩
theorem tabIs : TabOk Tryz.prog tab := tabB_ok (by kernel_rfl)
theorem mixed : Tryz.prog.follows .mixedOrders = true := Tryz.checked.mixed
end Go.Proofs.YtcpkhpboemfglaaGreatDoor

namespace Go.Proofs
open Go.Shelf
def Tryz.l146_ren : Go.Shelf.Ren := ⟨fun | 146 => 174 | 221 => 203 | 268 => 216 | 138 => 217 | 143 => 218 | 195 => 224 | 197 => 220 | 218 => 225 | 219 => 226 | 260 => 227 | 217 => 211 | 225 => 230 | 224 => 231 | 267 => 232 | 266 => 223 | 314 => 234 | n => n, fun | 9 => 9 | 31 => 67 | 3 => 3 | 4 => 4 | 0 => 0 | 105 => 243 | 21 => 21 | 5 => 5 | 46 => 198 | 119 => 237 | 139 => 240 | 138 => 239 | 146 => 252 | 51 => 251 | n => n, fun | 1 => 2 | 3 => 0 | 4 => 1 | n => n⟩
theorem Tryz.l146 : Go.Proofs.Lays.n146 Tryz.prog Tryz.l146_ren := {
  mixed := by kernel_rfl
  f138 := Tryz.func217.trans (congrArg some (by kernel_rfl))
  f143 := Tryz.func218.trans (congrArg some (by kernel_rfl))
  f146 := Tryz.func174.trans (congrArg some (by kernel_rfl))
  f195 := Tryz.func224.trans (congrArg some (by kernel_rfl))
  f197 := Tryz.func220.trans (congrArg some (by kernel_rfl))
  f217 := Tryz.func211.trans (congrArg some (by kernel_rfl))
  f218 := Tryz.func225.trans (congrArg some (by kernel_rfl))
  f219 := Tryz.func226.trans (congrArg some (by kernel_rfl))
  f221 := Tryz.func203.trans (congrArg some (by kernel_rfl))
  f224 := Tryz.func231.trans (congrArg some (by kernel_rfl))
  f225 := Tryz.func230.trans (congrArg some (by kernel_rfl))
  f260 := Tryz.func227.trans (congrArg some (by kernel_rfl))
  f266 := Tryz.func223.trans (congrArg some (by kernel_rfl))
  f267 := Tryz.func232.trans (congrArg some (by kernel_rfl))
  f268 := Tryz.func216.trans (congrArg some (by kernel_rfl))
  f314 := Tryz.func234.trans (congrArg some (by kernel_rfl))
  t0 := Tryz.underlying0
  a0 := Tryz.isAgg0
  z0 := Tryz.sizeOf0
  v0 := Tryz.zeroValue0
  t3 := Tryz.underlying3
  a3 := Tryz.isAgg3
  z3 := Tryz.sizeOf3
  v3 := Tryz.zeroValue3
  t4 := Tryz.underlying4
  a4 := Tryz.isAgg4
  z4 := Tryz.sizeOf4
  v4 := Tryz.zeroValue4
  t5 := Tryz.underlying5
  a5 := Tryz.isAgg5
  z5 := Tryz.sizeOf5
  v5 := Tryz.zeroValue5
  t9 := Tryz.underlying9
  a9 := Tryz.isAgg9
  z9 := Tryz.sizeOf9
  v9 := Tryz.zeroValue9
  t21 := Tryz.underlying21
  a21 := Tryz.isAgg21
  z21 := Tryz.sizeOf21
  v21 := Tryz.zeroValue21
  t31 := Tryz.underlying67
  a31 := Tryz.isAgg67
  z31 := Tryz.sizeOf67
  v31 := Tryz.zeroValue67
  t46 := Tryz.underlying198
  a46 := Tryz.isAgg198
  z46 := Tryz.sizeOf198
  v46 := Tryz.zeroValue198
  t51 := Tryz.underlying251
  a51 := Tryz.isAgg251
  z51 := Tryz.sizeOf251
  v51 := Tryz.zeroValue251
  t105 := Tryz.underlying243
  a105 := Tryz.isAgg243
  z105 := Tryz.sizeOf243
  v105 := Tryz.zeroValue243
  t119 := Tryz.underlying237
  a119 := Tryz.isAgg237
  z119 := Tryz.sizeOf237
  t138 := Tryz.underlying239
  a138 := Tryz.isAgg239
  z138 := Tryz.sizeOf239
  v138 := Tryz.zeroValue239
  t139 := Tryz.underlying240
  a139 := Tryz.isAgg240
  z139 := Tryz.sizeOf240
  v139 := Tryz.zeroValue240
  t146 := Tryz.underlying252
  a146 := Tryz.isAgg252
  z146 := Tryz.sizeOf252
  v146 := Tryz.zeroValue252
  g1 := by kernel_rfl
  g3 := by kernel_rfl
  g4 := by kernel_rfl }
def Tryz.l160_ren : Go.Shelf.Ren := ⟨fun | 160 => 175 | 232 => 205 | 231 => 204 | 227 => 206 | 234 => 208 | 233 => 207 | 236 => 210 | 235 => 209 | 228 => 219 | 271 => 222 | 151 => 221 | 197 => 220 | 120 => 229 | 152 => 228 | 260 => 227 | 137 => 176 | 119 => 233 | 224 => 231 | 225 => 230 | 217 => 211 | 266 => 223 | n => n, fun | 9 => 9 | 4 => 4 | 3 => 3 | 5 => 5 | 117 => 225 | 116 => 224 | 0 => 0 | 124 => 228 | 21 => 21 | 105 => 243 | 46 => 198 | 119 => 237 | 139 => 240 | 138 => 239 | n => n, fun | 3 => 0 | 4 => 1 | n => n⟩
theorem Tryz.l160 : Go.Proofs.Lays.n160 Tryz.prog Tryz.l160_ren := {
  mixed := by kernel_rfl
  f119 := Tryz.func233.trans (congrArg some (by kernel_rfl))
  f120 := Tryz.func229.trans (congrArg some (by kernel_rfl))
  f137 := Tryz.func176.trans (congrArg some (by kernel_rfl))
  f151 := Tryz.func221.trans (congrArg some (by kernel_rfl))
  f152 := Tryz.func228.trans (congrArg some (by kernel_rfl))
  f160 := Tryz.func175.trans (congrArg some (by kernel_rfl))
  f197 := Tryz.func220.trans (congrArg some (by kernel_rfl))
  f217 := Tryz.func211.trans (congrArg some (by kernel_rfl))
  f224 := Tryz.func231.trans (congrArg some (by kernel_rfl))
  f225 := Tryz.func230.trans (congrArg some (by kernel_rfl))
  f227 := Tryz.func206.trans (congrArg some (by kernel_rfl))
  f228 := Tryz.func219.trans (congrArg some (by kernel_rfl))
  f231 := Tryz.func204.trans (congrArg some (by kernel_rfl))
  f232 := Tryz.func205.trans (congrArg some (by kernel_rfl))
  f233 := Tryz.func207.trans (congrArg some (by kernel_rfl))
  f234 := Tryz.func208.trans (congrArg some (by kernel_rfl))
  f235 := Tryz.func209.trans (congrArg some (by kernel_rfl))
  f236 := Tryz.func210.trans (congrArg some (by kernel_rfl))
  f260 := Tryz.func227.trans (congrArg some (by kernel_rfl))
  f266 := Tryz.func223.trans (congrArg some (by kernel_rfl))
  f271 := Tryz.func222.trans (congrArg some (by kernel_rfl))
  t0 := Tryz.underlying0
  a0 := Tryz.isAgg0
  z0 := Tryz.sizeOf0
  v0 := Tryz.zeroValue0
  t3 := Tryz.underlying3
  a3 := Tryz.isAgg3
  z3 := Tryz.sizeOf3
  v3 := Tryz.zeroValue3
  t4 := Tryz.underlying4
  a4 := Tryz.isAgg4
  z4 := Tryz.sizeOf4
  v4 := Tryz.zeroValue4
  t5 := Tryz.underlying5
  a5 := Tryz.isAgg5
  z5 := Tryz.sizeOf5
  v5 := Tryz.zeroValue5
  t9 := Tryz.underlying9
  a9 := Tryz.isAgg9
  z9 := Tryz.sizeOf9
  v9 := Tryz.zeroValue9
  t21 := Tryz.underlying21
  a21 := Tryz.isAgg21
  z21 := Tryz.sizeOf21
  v21 := Tryz.zeroValue21
  t46 := Tryz.underlying198
  a46 := Tryz.isAgg198
  z46 := Tryz.sizeOf198
  v46 := Tryz.zeroValue198
  t105 := Tryz.underlying243
  a105 := Tryz.isAgg243
  z105 := Tryz.sizeOf243
  v105 := Tryz.zeroValue243
  t116 := Tryz.underlying224
  a116 := Tryz.isAgg224
  z116 := Tryz.sizeOf224
  t117 := Tryz.underlying225
  a117 := Tryz.isAgg225
  z117 := Tryz.sizeOf225
  v117 := Tryz.zeroValue225
  t119 := Tryz.underlying237
  a119 := Tryz.isAgg237
  z119 := Tryz.sizeOf237
  t124 := Tryz.underlying228
  a124 := Tryz.isAgg228
  z124 := Tryz.sizeOf228
  v124 := Tryz.zeroValue228
  t138 := Tryz.underlying239
  a138 := Tryz.isAgg239
  z138 := Tryz.sizeOf239
  v138 := Tryz.zeroValue239
  t139 := Tryz.underlying240
  a139 := Tryz.isAgg240
  z139 := Tryz.sizeOf240
  v139 := Tryz.zeroValue240
  g3 := by kernel_rfl
  g4 := by kernel_rfl }
def Tryz.l196_ren : Go.Shelf.Ren := ⟨fun | 196 => 192 | 259 => 215 | n => n, fun | 9 => 9 | 4 => 4 | 3 => 3 | 5 => 5 | 12 => 12 | 119 => 237 | 0 => 0 | 46 => 198 | 139 => 240 | 138 => 239 | 53 => 31 | n => n, fun | 3 => 0 | 4 => 1 | n => n⟩
theorem Tryz.l196 : Go.Proofs.Lays.n196 Tryz.prog Tryz.l196_ren := {
  mixed := by kernel_rfl
  f196 := Tryz.func192.trans (congrArg some (by kernel_rfl))
  f259 := Tryz.func215.trans (congrArg some (by kernel_rfl))
  t0 := Tryz.underlying0
  a0 := Tryz.isAgg0
  z0 := Tryz.sizeOf0
  v0 := Tryz.zeroValue0
  t3 := Tryz.underlying3
  a3 := Tryz.isAgg3
  z3 := Tryz.sizeOf3
  v3 := Tryz.zeroValue3
  t4 := Tryz.underlying4
  a4 := Tryz.isAgg4
  z4 := Tryz.sizeOf4
  v4 := Tryz.zeroValue4
  t5 := Tryz.underlying5
  a5 := Tryz.isAgg5
  z5 := Tryz.sizeOf5
  v5 := Tryz.zeroValue5
  t9 := Tryz.underlying9
  a9 := Tryz.isAgg9
  z9 := Tryz.sizeOf9
  v9 := Tryz.zeroValue9
  t12 := Tryz.underlying12
  a12 := Tryz.isAgg12
  z12 := Tryz.sizeOf12
  v12 := Tryz.zeroValue12
  t46 := Tryz.underlying198
  a46 := Tryz.isAgg198
  z46 := Tryz.sizeOf198
  v46 := Tryz.zeroValue198
  t53 := Tryz.underlying31
  a53 := Tryz.isAgg31
  z53 := Tryz.sizeOf31
  v53 := Tryz.zeroValue31
  t119 := Tryz.underlying237
  a119 := Tryz.isAgg237
  z119 := Tryz.sizeOf237
  t138 := Tryz.underlying239
  a138 := Tryz.isAgg239
  z138 := Tryz.sizeOf239
  v138 := Tryz.zeroValue239
  t139 := Tryz.underlying240
  a139 := Tryz.isAgg240
  z139 := Tryz.sizeOf240
  v139 := Tryz.zeroValue240
  g3 := by kernel_rfl
  g4 := by kernel_rfl }
def Tryz.l137_ren : Go.Shelf.Ren := ⟨fun | 137 => 176 | 217 => 211 | 266 => 223 | n => n, fun | 9 => 9 | 5 => 5 | 3 => 3 | n => n, fun | n => n⟩
theorem Tryz.l137 : Go.Proofs.Lays.n137 Tryz.prog Tryz.l137_ren := {
  mixed := by kernel_rfl
  f137 := Tryz.func176.trans (congrArg some (by kernel_rfl))
  f217 := Tryz.func211.trans (congrArg some (by kernel_rfl))
  f266 := Tryz.func223.trans (congrArg some (by kernel_rfl))
  t3 := Tryz.underlying3
  a3 := Tryz.isAgg3
  z3 := Tryz.sizeOf3
  v3 := Tryz.zeroValue3
  t5 := Tryz.underlying5
  a5 := Tryz.isAgg5
  z5 := Tryz.sizeOf5
  v5 := Tryz.zeroValue5
  t9 := Tryz.underlying9
  a9 := Tryz.isAgg9
  z9 := Tryz.sizeOf9
  v9 := Tryz.zeroValue9 }

end Go.Proofs
namespace Go.Proofs.YtcpkhpboemfglaaGreatDoor
open Go Go.Va Go.Proofs
theorem acc_get : ∀ (i : Nat), i < 16 → acceptCells[2 * i]? = some (Value.int .u8 (Lib.accLo i)) ∧ acceptCells[2 * i + 1]? = some (Value.int .u8 (Lib.accHi i))
  | 0, _ | 1, _ | 2, _ | 3, _ | 4, _ | 5, _ | 6, _ | 7, _ | 8, _ | 9, _ | 10, _ | 11, _ | 12, _ | 13, _ | 14, _ | 15, _ => ⟨rfl, rfl⟩
  | n + 16, h => absurd h (by omega)
theorem utf8Tabs {E : Env} {w : World} (h : GlOk E w) : Lib.Utf8Tabs (Tryz.l196_ren.g 3) (Tryz.l196_ren.g 4) w := by
  obtain ⟨_, c0, e0, h0⟩ := h (0, fun cs => cs = firstCells) (by simp [Gl.tab])
  obtain ⟨_, c1, e1, h1⟩ := h (1, fun cs => cs = acceptCells) (by simp [Gl.tab])
  have e0 : c0 = firstCells := e0
  have e1 : c1 = acceptCells := e1
  subst e0 e1
  have h0 := h0.2
  have h1 := h1.2
  refine ⟨fun c hc => ?_, fun i hi => ?_⟩
  · have := h0 c (by simp [firstCells, Lib.firstTab]; exact hc)
    simp [firstCells, Lib.firstTab] at this
    exact this
  · have hl : acceptCells.length = 32 := by kernel_rfl
    have a0 := h1 (2 * i) (by rw [hl]; omega)
    have a1 := h1 (2 * i + 1) (by rw [hl]; omega)
    obtain ⟨e0, e1⟩ := acc_get i hi
    rw [List.getElem?_eq_getElem (by rw [hl]; omega)] at e0 e1
    simp only [Option.some.injEq] at e0 e1
    simp only [Nat.zero_add] at a0 a1
    rw [e0] at a0
    rw [e1] at a1
    exact ⟨a0, a1⟩
theorem maxLen_cell {E : Env} {w : World} (h : GlOk E w) : ∃ m, w.cell? ⟨Tryz.l146_ren.g 1, 0, none⟩ = some (.int .i64 m) := by
  obtain ⟨_, c, ⟨m, e⟩, h2⟩ := h (2, fun cs => ∃ m, cs = [.int .i64 m]) (by simp [Gl.tab])
  have e : c = [.int .i64 m] := e
  subst e
  have := h2.2 0 (by simp)
  exact ⟨m, this⟩
namespace F_unicode_utf8_ValidString
abbrev ia : List Ai := [.dat .str]
abbrev io : List (Nat × Oi) := [(2, .dat .bool)]
noncomputable def f (s : ByteArray) : Option (DOut ia io) := if s.size ≤ 9223372036854775807 then some (Lib.validD s.data.toList, ()) else none
theorem ok : FnOk Tryz.prog 192 ia io (fun v => f v.1) := by
  refine leaf_ok ⟨Tryz.f192, Tryz.func192, by kernel_rfl, by kernel_rfl⟩ rfl (fun _ => rfl) (fun _ => rfl) (fun v u h E w vals hgl hc => ?_)
  obtain ⟨x, vs, rfl, h1, h3⟩ := hc
  have h3 : vs = [] := h3
  subst h3
  have h1 : x = .string v.1 := V_str.1 h1
  subst h1
  unfold f at h
  split at h
  · next hs =>
    injection h with h
    subst h
    refine (Any.utf8_ValidString Tryz.l196 v.1 w hs (utf8Tabs hgl)).mono ?_
    rintro e w' ⟨rfl, hb⟩
    exact ⟨_, rfl, ⟨hb.os, hb.tape, hb.output, hb.size, hb.block⟩, fun E => V_bool.2 rfl⟩
  · exact absurd h (by simp)
noncomputable def en : Entry := mkEntry 192 ia io (fun v => f v.1)
end F_unicode_utf8_ValidString
namespace F_strings_IndexByte
abbrev ia : List Ai := [.dat .str, .dat (.int .u8)]
abbrev io : List (Nat × Oi) := [(4, .dat (.int .i64))]
noncomputable def f (s : ByteArray) (c : Int) : Option (DOut ia io) := some (Lib.indexByte s.data.toList c.toNat.toUInt8, ())
theorem ok : FnOk Tryz.prog 176 ia io (fun v => f v.1 v.2.1) := by
  refine leaf_ok ⟨Tryz.f176, Tryz.func176, by kernel_rfl, by kernel_rfl⟩ rfl (fun _ => rfl) (fun _ => rfl) (fun v u h E w vals hgl hc => ?_)
  obtain ⟨x, vs, rfl, h1, y, vs', rfl, h2, h3⟩ := hc
  have h3 : vs' = [] := h3
  subst h3
  have h1 : x = .string v.1 := V_str.1 h1
  have h2 : y = .int .u8 v.2.1 := V_int.1 h2
  subst h1 h2
  injection h with h
  subst h
  refine (Any.strings_IndexByte Tryz.l137 v.1 v.2.1 w).mono ?_
  rintro e w' ⟨rfl, rfl⟩
  exact ⟨_, rfl, .refl _, fun E => V_int.2 rfl⟩
noncomputable def en : Entry := mkEntry 176 ia io (fun v => f v.1 v.2.1)
end F_strings_IndexByte
namespace F_strings_Trim
abbrev ia : List Ai := [.dat .str, .dat .str]
abbrev io : List (Nat × Oi) := [(4, .dat .str)]
noncomputable def f (s c : ByteArray) : Option (DOut ia io) := if s.size ≤ 9223372036854775807 ∧ c.size < 4294967281 ∧ (∀ b ∈ c.data.toList, b.toNat < 128) then some (⟨(Lib.trimS s.data.toList c.data.toList).toArray⟩, ()) else none
theorem zero116 (w : World) : (zeroValue (Tryz.l160_ren.t 116)).run Tryz.prog w = .ok (.agg (Array.replicate 256 (.bool false))) w := by
  have h : Tryz.prog.info? (Tryz.l160_ren.t 116) = some ((Tryz.prog.info? (Tryz.l160_ren.t 116)).getD default) := by kernel_rfl
  have h2 : ((Tryz.prog.info? (Tryz.l160_ren.t 116)).getD default).zero = some (.agg (Array.replicate 256 (.bool false))) := by kernel_rfl
  simp only [zeroValue, Sem.run_bind, Va.run_typeInfo h, Result.andThen_ok, h2, Sem.run_pure]
theorem ok : FnOk Tryz.prog 175 ia io (fun v => f v.1 v.2.1) := by
  refine leaf_ok ⟨Tryz.f175, Tryz.func175, by kernel_rfl, by kernel_rfl⟩ rfl (fun _ => rfl) (fun _ => rfl) (fun v u h E w vals hgl hc => ?_)
  obtain ⟨x, vs, rfl, h1, y, vs', rfl, h2, h3⟩ := hc
  have h3 : vs' = [] := h3
  subst h3
  have h1 : x = .string v.1 := V_str.1 h1
  have h2 : y = .string v.2.1 := V_str.1 h2
  subst h1 h2
  unfold f at h
  split at h
  · next hs =>
    injection h with h
    subst h
    refine (Any.strings_Trim_ascii Tryz.l160 zero116 (by kernel_rfl) v.1 v.2.1 w hs.1 hs.2.1 (fun j b hj => hs.2.2 b (List.mem_of_getElem? hj))).mono ?_
    rintro e w' ⟨rfl, hb⟩
    exact ⟨_, rfl, ⟨hb.os, hb.tape, hb.output, hb.size, hb.block⟩, fun E => V_str.2 rfl⟩
  · exact absurd h (by simp)
noncomputable def en : Entry := mkEntry 175 ia io (fun v => f v.1 v.2.1)
end F_strings_Trim
namespace F_strings_Split
abbrev ia : List Ai := [.dat .str, .dat .str]
abbrev io : List (Nat × Oi) := [(4, .val (.r 0 .str))]
noncomputable def f (s sep : ByteArray) : Option (DOut ia io) := if s.size < 4294967281 ∧ 1 ≤ sep.size then some (Lib.splitB sep 0 (Lib.countB s sep) s, ()) else none
theorem ok : FnOk Tryz.prog 174 ia io (fun v => f v.1 v.2.1) := by
  refine leaf_row_ok ⟨Tryz.f174, Tryz.func174, by kernel_rfl, by kernel_rfl⟩ rfl (fun _ => rfl) (fun v u h E w vals hgl hc => ?_)
  obtain ⟨x, vs, rfl, h1, y, vs', rfl, h2, h3⟩ := hc
  have h3 : vs' = [] := h3
  subst h3
  have h1 : x = .string v.1 := V_str.1 h1
  have h2 : y = .string v.2.1 := V_str.1 h2
  subst h1 h2
  unfold f at h
  split at h
  · next hs =>
    injection h with h
    subst h
    obtain ⟨m, hm⟩ := maxLen_cell hgl
    refine (Any.strings_Split Tryz.l146 (by kernel_rfl) v.1 v.2.1 m w hs.1 hm hs.2).mono ?_
    rintro e w' ⟨rfl, rfl⟩
    have hl := Lib.splitB_all v.2.1 hs.2 0 _ v.1 rfl
    refine ⟨_, _, by rw [hl], rfl, fun S w' => ?_⟩
    have : ∀ l : List ByteArray, RdL (Rd S w' .str) l (l.map Value.string) := by
      intro l
      induction l with
      | nil => rfl
      | cons x l ih => exact ⟨[.string x], l.map Value.string, rfl, rfl, ih⟩
    exact this _
  · exact absurd h (by simp)
noncomputable def en : Entry := mkEntry 174 ia io (fun v => f v.1 v.2.1)
end F_strings_Split
end Go.Proofs.YtcpkhpboemfglaaGreatDoor


namespace Go.Proofs.YtcpkhpboemfglaaGreatDoor
open Go Go.Va Go.Proofs
/- chartulary/label.Clean -/
namespace F_label_Clean
abbrev ia : List Ai := [.dat .str]
abbrev io : List (Nat × Oi) := [(2, .dat .bool)]
abbrev R : Type := DOut ia io
noncomputable def X (n : Nat) : Ctx := ⟨⟨tab, [F_unicode_utf8_ValidString.en], 0, []⟩, 21, bnOf 0 ia⟩
abbrev g1 : List Si := [.dat 0 .str, .val 6 (.r 200600 (.int .u8)), .dat 7 (.int .i64), .dat 8 (.int .i64)]
abbrev g2 : List Si := [.dat 0 .str]
noncomputable def T : CT := (.s .o (.s (.s .o (.b (.l g1 .o))) (.r g2 .o)))
noncomputable def J1 (n : Nat) (m : Nat) : ByteArray × (List (Int)) × Int × Int × Unit → Option R := jL (X n) n T (bodyOf Tryz.f165) (endK ia io) g1 [1, 0, 1, 0] [] m
noncomputable def J2 (n : Nat) : ByteArray × Unit → Option R := jR (X n) n T (bodyOf Tryz.f165) (endK ia io) g2 [1, 1] []
noncomputable def f (n : Nat) (s_ : ByteArray) : Option R := fRun (X n) n T Tryz.f165 ia io (s_, ())
theorem e0 (n : Nat) (s_ : ByteArray) : f n s_ =
  J1 n n (s_, (ofBytes s_), (((ofBytes s_).length : Nat) : Int), 0, ()) := (hideF_eq _).trans (by kernel_rfl)
theorem e1 (n m : Nat) (s_ : ByteArray) (t6 : List (Int)) (t7 : Int) (t8 : Int) : J1 n (m + 1) (s_, t6, t7, t8, ()) =
  bIf ((hide (decide (t8 < t7)))) (
    gIf (0 ≤ t8 ∧ t8 < ((t6.length : Nat) : Int)) (
      bIf ((hide (decide ((List.getD t6 (0 + t8.toNat) 0) < (32 : Int))))) (
        some (false, ())
        ) (
        bIf ((hide ((List.getD t6 (0 + t8.toNat) 0) == (127 : Int)))) (
          some (false, ())
          ) (
          J1 n m (s_, t6, t7, (IntKind.i64.wrap (t8 + (1 : Int))), ())
          )
        )
      )
    ) (
    J2 n (s_, ())
    ) := (hideF_eq _).trans (by kernel_rfl)
theorem e2 (n : Nat) (s_ : ByteArray) : J2 n (s_, ()) =
  bnd (F_unicode_utf8_ValidString.f s_) fun u1 =>
  some (u1.1, ()) := (hideF_eq _).trans (by kernel_rfl)
theorem phi (n : Nat) : ∀ e ∈ (X n).c.Φ, EntryOk Tryz.prog e := allE_cons (mkEntry_ok (F_unicode_utf8_ValidString.ok)) (allE_nil)
theorem ok (n : Nat) : FnOk Tryz.prog 165 ia io (fRun (X n) n T Tryz.f165 ia io) := tree_ok mixed tabIs (phi n) Tryz.func165 (by kernel_rfl) rfl
noncomputable def en (n : Nat) : Entry := mkEntry 165 ia io (fRun (X n) n T Tryz.f165 ia io)
end F_label_Clean
end Go.Proofs.YtcpkhpboemfglaaGreatDoor


namespace Go.Proofs.YtcpkhpboemfglaaGreatDoor
open Go Go.Va Go.Proofs
/- chartulary/chartularyref06.Clean -/
namespace F_ref06_Clean
abbrev ia : List Ai := [.dat .str]
abbrev io : List (Nat × Oi) := [(2, .dat .bool)]
abbrev R : Type := DOut ia io
noncomputable def X (n : Nat) : Ctx := ⟨⟨tab, [], 0, []⟩, 109, bnOf 0 ia⟩
abbrev g1 : List Si := [.dat 0 .str, .dat 3 (.int .i64)]
abbrev g2 : List Si := [.dat 0 .str, .dat 3 (.int .i64), .dat 4 (.int .i64), .dat 21 .bool]
abbrev g3 : List Si := [.dat 0 .str, .dat 3 (.int .i64), .dat 4 (.int .i64), .dat 30 .bool]
abbrev g4 : List Si := [.dat 0 .str, .dat 3 (.int .i64), .dat 4 (.int .i64), .dat 39 .bool]
abbrev g5 : List Si := [.dat 0 .str, .dat 3 (.int .i64), .dat 4 (.int .i64), .dat 5 (.int .i64), .dat 6 (.int .i64), .dat 7 (.int .i64)]
abbrev g6 : List Si := [.dat 0 .str, .dat 3 (.int .i64), .dat 5 (.int .i64), .dat 6 (.int .i64), .dat 7 (.int .i64)]
abbrev g7 : List Si := [.dat 0 .str, .dat 3 (.int .i64), .dat 5 (.int .i64), .dat 6 (.int .i64), .dat 7 (.int .i64), .dat 8 (.int .i64)]
abbrev g8 : List Si := [.dat 0 .str, .dat 3 (.int .i64), .dat 5 (.int .i64), .dat 6 (.int .i64), .dat 7 (.int .i64), .dat 8 (.int .i64)]
abbrev g9 : List Si := [.dat 0 .str, .dat 3 (.int .i64), .dat 5 (.int .i64), .dat 6 (.int .i64), .dat 7 (.int .i64), .dat 8 (.int .i64)]
abbrev g10 : List Si := [.dat 0 .str, .dat 3 (.int .i64), .dat 5 (.int .i64), .dat 6 (.int .i64), .dat 7 (.int .i64)]
abbrev g11 : List Si := [.dat 0 .str, .dat 3 (.int .i64), .dat 5 (.int .i64)]
abbrev g12 : List Si := []
noncomputable def T : CT := (.s .o (.s (.s .o (.b (.l g1 (.s .o (.b (.s .o (.s .o (.s (.b (.s .o (.c .o (.s .o (.r g2 (.c .o (.s .o (.r g3 (.c .o (.s .o (.r g4 .o))))))))))) (.r g5 (.s .o (.r g6 (.s (.s .o (.b (.l g7 (.s .o (.s (.b (.s .o (.r g8 .o))) (.r g9 .o)))))) (.r g10 (.s .o (.r g11 .o))))))))))))))) (.r g12 .o)))
noncomputable def J1 (n : Nat) (m : Nat) : ByteArray × Int × Unit → Option R := jL (X n) n T (bodyOf Tryz.f77) (endK ia io) g1 [1, 0, 1, 0] [] m
noncomputable def J2 (n m1 : Nat) : ByteArray × Int × Int × Bool × Unit → Option R := jR (X n) n T (bodyOf Tryz.f77) (endK ia io) g2 [1, 0, 1, 0, 0, 1, 0, 1, 1, 0, 0, 1, 1, 1] [m1]
noncomputable def J3 (n m1 : Nat) : ByteArray × Int × Int × Bool × Unit → Option R := jR (X n) n T (bodyOf Tryz.f77) (endK ia io) g3 [1, 0, 1, 0, 0, 1, 0, 1, 1, 0, 0, 1, 1, 1, 1, 1] [m1]
noncomputable def J4 (n m1 : Nat) : ByteArray × Int × Int × Bool × Unit → Option R := jR (X n) n T (bodyOf Tryz.f77) (endK ia io) g4 [1, 0, 1, 0, 0, 1, 0, 1, 1, 0, 0, 1, 1, 1, 1, 1, 1, 1] [m1]
noncomputable def J5 (n m1 : Nat) : ByteArray × Int × Int × Int × Int × Int × Unit → Option R := jR (X n) n T (bodyOf Tryz.f77) (endK ia io) g5 [1, 0, 1, 0, 0, 1, 0, 1, 1, 1] [m1]
noncomputable def J6 (n m1 : Nat) : ByteArray × Int × Int × Int × Int × Unit → Option R := jR (X n) n T (bodyOf Tryz.f77) (endK ia io) g6 [1, 0, 1, 0, 0, 1, 0, 1, 1, 1, 1] [m1]
noncomputable def J7 (n m1 : Nat) (m : Nat) : ByteArray × Int × Int × Int × Int × Int × Unit → Option R := jL (X n) n T (bodyOf Tryz.f77) (endK ia io) g7 [1, 0, 1, 0, 0, 1, 0, 1, 1, 1, 1, 0, 1, 0] [m1] m
noncomputable def J8 (n m1 m7 : Nat) : ByteArray × Int × Int × Int × Int × Int × Unit → Option R := jR (X n) n T (bodyOf Tryz.f77) (endK ia io) g8 [1, 0, 1, 0, 0, 1, 0, 1, 1, 1, 1, 0, 1, 0, 0, 1, 0, 0, 1] [m1, m7]
noncomputable def J9 (n m1 m7 : Nat) : ByteArray × Int × Int × Int × Int × Int × Unit → Option R := jR (X n) n T (bodyOf Tryz.f77) (endK ia io) g9 [1, 0, 1, 0, 0, 1, 0, 1, 1, 1, 1, 0, 1, 0, 0, 1, 1] [m1, m7]
noncomputable def J10 (n m1 : Nat) : ByteArray × Int × Int × Int × Int × Unit → Option R := jR (X n) n T (bodyOf Tryz.f77) (endK ia io) g10 [1, 0, 1, 0, 0, 1, 0, 1, 1, 1, 1, 1] [m1]
noncomputable def J11 (n m1 : Nat) : ByteArray × Int × Int × Unit → Option R := jR (X n) n T (bodyOf Tryz.f77) (endK ia io) g11 [1, 0, 1, 0, 0, 1, 0, 1, 1, 1, 1, 1, 1] [m1]
noncomputable def J12 (n : Nat) : Unit → Option R := jR (X n) n T (bodyOf Tryz.f77) (endK ia io) g12 [1, 1] []
noncomputable def f (n : Nat) (s_ : ByteArray) : Option R := fRun (X n) n T Tryz.f77 ia io (s_, ())
theorem e0 (n : Nat) (s_ : ByteArray) : f n s_ =
  J1 n n (s_, 0, ()) := (hideF_eq _).trans (by kernel_rfl)
theorem e1 (n m : Nat) (s_ : ByteArray) (at_ : Int) : J1 n (m + 1) (s_, at_, ()) =
  bIf ((hide (decide (at_ < (s_.size : Int))))) (
    gIf (0 ≤ at_ ∧ at_ < (s_.size : Int)) (
      bIf ((hide (decide ((IntKind.i64.wrap (bt s_ at_)) < (128 : Int))))) (
        J5 n m (s_, at_, (IntKind.i64.wrap (bt s_ at_)), 1, (IntKind.i64.wrap (bt s_ at_)), 0, ())
        ) (
        bIf ((hide (decide ((IntKind.i64.wrap (bt s_ at_)) ≥ (192 : Int))))) (
          J2 n m (s_, at_, (IntKind.i64.wrap (bt s_ at_)), (hide (decide ((IntKind.i64.wrap (bt s_ at_)) < (224 : Int)))), ())
          ) (
          J2 n m (s_, at_, (IntKind.i64.wrap (bt s_ at_)), false, ())
          )
        )
      )
    ) (
    J12 n (())
    ) := (hideF_eq _).trans (by kernel_rfl)
theorem e2 (n m1 : Nat) (s_ : ByteArray) (at_ : Int) (b : Int) (t21 : Bool) : J2 n m1 (s_, at_, b, t21, ()) =
  bIf (t21) (
    J5 n m1 (s_, at_, b, 2, (IntKind.i64.wrap (b - (192 : Int))), 128, ())
    ) (
    bIf ((hide (decide (b ≥ (224 : Int))))) (
      J3 n m1 (s_, at_, b, (hide (decide (b < (240 : Int)))), ())
      ) (
      J3 n m1 (s_, at_, b, false, ())
      )
    ) := (hideF_eq _).trans (by kernel_rfl)
theorem e3 (n m1 : Nat) (s_ : ByteArray) (at_ : Int) (b : Int) (t30 : Bool) : J3 n m1 (s_, at_, b, t30, ()) =
  bIf (t30) (
    J5 n m1 (s_, at_, b, 3, (IntKind.i64.wrap (b - (224 : Int))), 2048, ())
    ) (
    bIf ((hide (decide (b ≥ (240 : Int))))) (
      J4 n m1 (s_, at_, b, (hide (decide (b < (248 : Int)))), ())
      ) (
      J4 n m1 (s_, at_, b, false, ())
      )
    ) := (hideF_eq _).trans (by kernel_rfl)
theorem e4 (n m1 : Nat) (s_ : ByteArray) (at_ : Int) (b : Int) (t39 : Bool) : J4 n m1 (s_, at_, b, t39, ()) =
  bIf (t39) (
    J5 n m1 (s_, at_, b, 4, (IntKind.i64.wrap (b - (240 : Int))), 65536, ())
    ) (
    some (false, ())
    ) := (hideF_eq _).trans (by kernel_rfl)
theorem e5 (n m1 : Nat) (s_ : ByteArray) (at_ : Int) (b : Int) (n_ : Int) (r : Int) (least : Int) : J5 n m1 (s_, at_, b, n_, r, least, ()) =
  bIf ((hide (decide (b < (32 : Int))))) (
    some (false, ())
    ) (
    bIf ((hide (b == (127 : Int)))) (
      some (false, ())
      ) (
      J6 n m1 (s_, at_, n_, r, least, ())
      )
    ) := (hideF_eq _).trans (by kernel_rfl)
theorem e6 (n m1 : Nat) (s_ : ByteArray) (at_ : Int) (n_ : Int) (r : Int) (least : Int) : J6 n m1 (s_, at_, n_, r, least, ()) =
  J7 n m1 n (s_, at_, n_, r, least, 1, ()) := (hideF_eq _).trans (by kernel_rfl)
theorem e7 (n m1 m : Nat) (s_ : ByteArray) (at_ : Int) (n_ : Int) (r : Int) (least : Int) (i : Int) : J7 n m1 (m + 1) (s_, at_, n_, r, least, i, ()) =
  bIf ((hide (decide (i < n_)))) (
    bIf ((hide (decide ((IntKind.i64.wrap (at_ + i)) ≥ (s_.size : Int))))) (
      some (false, ())
      ) (
      gIf (0 ≤ (IntKind.i64.wrap (at_ + i)) ∧ (IntKind.i64.wrap (at_ + i)) < (s_.size : Int)) (
        bIf ((hide (decide ((bt s_ (IntKind.i64.wrap (at_ + i))) < (128 : Int))))) (
          some (false, ())
          ) (
          gIf (0 ≤ (IntKind.i64.wrap (at_ + i)) ∧ (IntKind.i64.wrap (at_ + i)) < (s_.size : Int)) (
            bIf ((hide (decide ((bt s_ (IntKind.i64.wrap (at_ + i))) ≥ (192 : Int))))) (
              some (false, ())
              ) (
              J8 n m1 m (s_, at_, n_, r, least, i, ())
              )
            )
          )
        )
      )
    ) (
    J10 n m1 (s_, at_, n_, r, least, ())
    ) := (hideF_eq _).trans (by kernel_rfl)
theorem e8 (n m1 m7 : Nat) (s_ : ByteArray) (at_ : Int) (n_ : Int) (r : Int) (least : Int) (i : Int) : J8 n m1 m7 (s_, at_, n_, r, least, i, ()) =
  gIf (0 ≤ (IntKind.i64.wrap (at_ + i)) ∧ (IntKind.i64.wrap (at_ + i)) < (s_.size : Int)) (
    J9 n m1 m7 (s_, at_, n_, (IntKind.i64.wrap ((IntKind.i64.wrap ((IntKind.i64.wrap (r * (64 : Int))) + (IntKind.i64.wrap (bt s_ (IntKind.i64.wrap (at_ + i)))))) - (128 : Int))), least, i, ())
    ) := (hideF_eq _).trans (by kernel_rfl)
theorem e9 (n m1 m7 : Nat) (s_ : ByteArray) (at_ : Int) (n_ : Int) (r : Int) (least : Int) (i : Int) : J9 n m1 m7 (s_, at_, n_, r, least, i, ()) =
  J7 n m1 m7 (s_, at_, n_, r, least, (IntKind.i64.wrap (i + (1 : Int))), ()) := (hideF_eq _).trans (by kernel_rfl)
theorem e10 (n m1 : Nat) (s_ : ByteArray) (at_ : Int) (n_ : Int) (r : Int) (least : Int) : J10 n m1 (s_, at_, n_, r, least, ()) =
  bIf ((hide (decide (r < least)))) (
    some (false, ())
    ) (
    bIf ((hide (decide (r > (1114111 : Int))))) (
      some (false, ())
      ) (
      bIf ((hide (decide (r ≥ (55296 : Int))))) (
        bIf ((hide (decide (r ≤ (57343 : Int))))) (
          some (false, ())
          ) (
          J11 n m1 (s_, at_, n_, ())
          )
        ) (
        J11 n m1 (s_, at_, n_, ())
        )
      )
    ) := (hideF_eq _).trans (by kernel_rfl)
theorem e11 (n m1 : Nat) (s_ : ByteArray) (at_ : Int) (n_ : Int) : J11 n m1 (s_, at_, n_, ()) =
  J1 n m1 (s_, (IntKind.i64.wrap (at_ + n_)), ()) := (hideF_eq _).trans (by kernel_rfl)
theorem e12 (n : Nat) : J12 n (()) =
  some (true, ()) := (hideF_eq _).trans (by kernel_rfl)
theorem phi (n : Nat) : ∀ e ∈ (X n).c.Φ, EntryOk Tryz.prog e := allE_nil
theorem ok (n : Nat) : FnOk Tryz.prog 77 ia io (fRun (X n) n T Tryz.f77 ia io) := tree_ok mixed tabIs (phi n) Tryz.func77 (by kernel_rfl) rfl
noncomputable def en (n : Nat) : Entry := mkEntry 77 ia io (fRun (X n) n T Tryz.f77 ia io)
end F_ref06_Clean
end Go.Proofs.YtcpkhpboemfglaaGreatDoor


namespace Go.Proofs.YtcpkhpboemfglaaGreatDoor
open Go Go.Va Go.Proofs
/- chartulary/when.Clamp -/
namespace F_when_Clamp
abbrev ia : List Ai := [.dat (.int .i64)]
abbrev io : List (Nat × Oi) := [(2, .dat (.int .i64))]
abbrev R : Type := DOut ia io
noncomputable def X (n : Nat) : Ctx := ⟨⟨tab, [], 0, []⟩, 6, bnOf 0 ia⟩
noncomputable def T : CT := .o
noncomputable def f (n : Nat) (t : Int) : Option R := fRun (X n) n T Tryz.f42 ia io (t, ())
theorem e0 (n : Nat) (t : Int) : f n t =
  some ((maxI .i64 (-62135596800) (minI .i64 t 253402300799)), ()) := (hideF_eq _).trans (by kernel_rfl)
theorem phi (n : Nat) : ∀ e ∈ (X n).c.Φ, EntryOk Tryz.prog e := allE_nil
theorem ok (n : Nat) : FnOk Tryz.prog 42 ia io (fRun (X n) n T Tryz.f42 ia io) := tree_ok mixed tabIs (phi n) Tryz.func42 (by kernel_rfl) rfl
noncomputable def en (n : Nat) : Entry := mkEntry 42 ia io (fRun (X n) n T Tryz.f42 ia io)
end F_when_Clamp
end Go.Proofs.YtcpkhpboemfglaaGreatDoor


namespace Go.Proofs.YtcpkhpboemfglaaGreatDoor
open Go Go.Va Go.Proofs
/- chartulary/chartularyref05.Clamp -/
namespace F_ref05_Clamp
abbrev ia : List Ai := [.dat (.int .i64)]
abbrev io : List (Nat × Oi) := [(2, .dat (.int .i64))]
abbrev R : Type := DOut ia io
noncomputable def X (n : Nat) : Ctx := ⟨⟨tab, [], 0, []⟩, 8, bnOf 0 ia⟩
noncomputable def T : CT := .o
noncomputable def f (n : Nat) (t : Int) : Option R := fRun (X n) n T Tryz.f46 ia io (t, ())
theorem e0 (n : Nat) (t : Int) : f n t =
  bIf ((hide (decide (t < (-62135596800 : Int))))) (
    some ((-62135596800), ())
    ) (
    bIf ((hide (decide (t > (253402300799 : Int))))) (
      some (253402300799, ())
      ) (
      some (t, ())
      )
    ) := (hideF_eq _).trans (by kernel_rfl)
theorem phi (n : Nat) : ∀ e ∈ (X n).c.Φ, EntryOk Tryz.prog e := allE_nil
theorem ok (n : Nat) : FnOk Tryz.prog 46 ia io (fRun (X n) n T Tryz.f46 ia io) := tree_ok mixed tabIs (phi n) Tryz.func46 (by kernel_rfl) rfl
noncomputable def en (n : Nat) : Entry := mkEntry 46 ia io (fRun (X n) n T Tryz.f46 ia io)
end F_ref05_Clamp
end Go.Proofs.YtcpkhpboemfglaaGreatDoor


namespace Go.Proofs.YtcpkhpboemfglaaGreatDoor
open Go Go.Va Go.Proofs
/- chartulary/mode.Sound -/
namespace F_mode_Sound
abbrev ia : List Ai := [.dat T_api_Lock]
abbrev io : List (Nat × Oi) := [(2, .dat .bool)]
abbrev R : Type := DOut ia io
noncomputable def X (n : Nat) : Ctx := ⟨⟨tab, [F_when_Clamp.en n], 0, []⟩, 19, bnOf 0 ia⟩
abbrev g1 : List Si := [.ref 1 1 T_api_Lock, .dat 10 .bool, .box 1 (.d T_api_Lock)]
noncomputable def T : CT := (.s .o (.s (.s .o (.b (.s .o (.c .o (.s .o (.r g1 .o)))))) .o))
noncomputable def J1 (n : Nat) : Bool × D_api_Lock × Unit → Option R := jR (X n) n T (bodyOf Tryz.f128) (endK ia io) g1 [1, 0, 1, 0, 1, 1, 1] []
noncomputable def f (n : Nat) (l : D_api_Lock) : Option R := fRun (X n) n T Tryz.f128 ia io (l, ())
theorem e0 (n : Nat) (l : D_api_Lock) : f n l =
  bIf ((hide (l.1 == (0 : Int)))) (
    some ((hide (l.2.1 == (0 : Int))), ())
    ) (
    bIf ((hide (l.1 == (1 : Int)))) (
      J1 n (true, l, ())
      ) (
      J1 n ((hide (l.1 == (2 : Int))), l, ())
      )
    ) := (hideF_eq _).trans (by kernel_rfl)
theorem e1 (n : Nat) (t10 : Bool) (l : D_api_Lock) : J1 n (t10, l, ()) =
  bIf (t10) (
    bnd (F_when_Clamp.f n l.2.1) fun u1 =>
    some ((hide (l.2.1 == u1.1)), ())
    ) (
    some (false, ())
    ) := (hideF_eq _).trans (by kernel_rfl)
theorem phi (n : Nat) : ∀ e ∈ (X n).c.Φ, EntryOk Tryz.prog e := allE_cons (mkEntry_ok (F_when_Clamp.ok n)) (allE_nil)
theorem ok (n : Nat) : FnOk Tryz.prog 128 ia io (fRun (X n) n T Tryz.f128 ia io) := tree_ok mixed tabIs (phi n) Tryz.func128 (by kernel_rfl) rfl
noncomputable def en (n : Nat) : Entry := mkEntry 128 ia io (fRun (X n) n T Tryz.f128 ia io)
end F_mode_Sound
end Go.Proofs.YtcpkhpboemfglaaGreatDoor


namespace Go.Proofs.YtcpkhpboemfglaaGreatDoor
open Go Go.Va Go.Proofs
/- chartulary/chartularyref12.Sound -/
namespace F_ref12_Sound
abbrev ia : List Ai := [.dat T_api_Lock]
abbrev io : List (Nat × Oi) := [(2, .dat .bool)]
abbrev R : Type := DOut ia io
noncomputable def X (n : Nat) : Ctx := ⟨⟨tab, [F_ref05_Clamp.en n], 0, []⟩, 25, bnOf 0 ia⟩
noncomputable def T : CT := .o
noncomputable def f (n : Nat) (l : D_api_Lock) : Option R := fRun (X n) n T Tryz.f52 ia io (l, ())
theorem e0 (n : Nat) (l : D_api_Lock) : f n l =
  bIf ((hide (l.1 == (0 : Int)))) (
    some ((hide (l.2.1 == (0 : Int))), ())
    ) (
    bIf ((hide (l.1 == (1 : Int)))) (
      bnd (F_ref05_Clamp.f n l.2.1) fun u1 =>
      some ((hide (u1.1 == l.2.1)), ())
      ) (
      bIf ((hide (l.1 == (2 : Int)))) (
        bnd (F_ref05_Clamp.f n l.2.1) fun u2 =>
        some ((hide (u2.1 == l.2.1)), ())
        ) (
        some (false, ())
        )
      )
    ) := (hideF_eq _).trans (by kernel_rfl)
theorem phi (n : Nat) : ∀ e ∈ (X n).c.Φ, EntryOk Tryz.prog e := allE_cons (mkEntry_ok (F_ref05_Clamp.ok n)) (allE_nil)
theorem ok (n : Nat) : FnOk Tryz.prog 52 ia io (fRun (X n) n T Tryz.f52 ia io) := tree_ok mixed tabIs (phi n) Tryz.func52 (by kernel_rfl) rfl
noncomputable def en (n : Nat) : Entry := mkEntry 52 ia io (fRun (X n) n T Tryz.f52 ia io)
end F_ref12_Sound
end Go.Proofs.YtcpkhpboemfglaaGreatDoor


namespace Go.Proofs.YtcpkhpboemfglaaGreatDoor
open Go Go.Va Go.Proofs
/- chartulary/tags.good -/
namespace F_tags_good
abbrev ia : List Ai := [.dat T_api_Tag]
abbrev io : List (Nat × Oi) := [(2, .dat .bool)]
abbrev R : Type := DOut ia io
noncomputable def X (n : Nat) : Ctx := ⟨⟨tab, [F_label_Clean.en n], 0, []⟩, 28, bnOf 0 ia⟩
noncomputable def T : CT := .o
noncomputable def f (n : Nat) (t : D_api_Tag) : Option R := fRun (X n) n T Tryz.f183 ia io (t, ())
theorem e0 (n : Nat) (t : D_api_Tag) : f n t =
  bIf ((hide (!eqS t.1 (⟨#[]⟩ : ByteArray)))) (
    bIf ((hide (decide ((t.1.size : Int) ≤ (64 : Int))))) (
      bIf ((hide (decide ((t.2.1.size : Int) ≤ (64 : Int))))) (
        bnd (F_label_Clean.f n t.1) fun u1 =>
        bIf (u1.1) (
          bnd (F_label_Clean.f n t.2.1) fun u2 =>
          some (u2.1, ())
          ) (
          some (false, ())
          )
        ) (
        some (false, ())
        )
      ) (
      some (false, ())
      )
    ) (
    some (false, ())
    ) := (hideF_eq _).trans (by kernel_rfl)
theorem phi (n : Nat) : ∀ e ∈ (X n).c.Φ, EntryOk Tryz.prog e := allE_cons (mkEntry_ok (F_label_Clean.ok n)) (allE_nil)
theorem ok (n : Nat) : FnOk Tryz.prog 183 ia io (fRun (X n) n T Tryz.f183 ia io) := tree_ok mixed tabIs (phi n) Tryz.func183 (by kernel_rfl) rfl
noncomputable def en (n : Nat) : Entry := mkEntry 183 ia io (fRun (X n) n T Tryz.f183 ia io)
end F_tags_good
end Go.Proofs.YtcpkhpboemfglaaGreatDoor


namespace Go.Proofs.YtcpkhpboemfglaaGreatDoor
open Go Go.Va Go.Proofs
/- chartulary/tags.Sound -/
namespace F_tags_Sound
abbrev ia : List Ai := [.dat (.slice T_api_Tag)]
abbrev io : List (Nat × Oi) := [(2, .dat .bool)]
abbrev R : Type := DOut ia io
noncomputable def X (n : Nat) : Ctx := ⟨⟨tab, [F_tags_good.en n], 0, []⟩, 34, bnOf 0 ia⟩
abbrev g1 : List Si := [.dat 0 (.slice T_api_Tag), .dat 8 (.slice T_api_Tag), .dat 9 (.int .i64), .dat 10 (.int .i64)]
abbrev g2 : List Si := []
noncomputable def T : CT := (.s .o (.s .o (.s (.s .o (.b (.l g1 .o))) (.r g2 .o))))
noncomputable def J1 (n : Nat) (m : Nat) : (List (D_api_Tag)) × (List (D_api_Tag)) × Int × Int × Unit → Option R := jL (X n) n T (bodyOf Tryz.f129) (endK ia io) g1 [1, 1, 0, 1, 0] [] m
noncomputable def J2 (n : Nat) : Unit → Option R := jR (X n) n T (bodyOf Tryz.f129) (endK ia io) g2 [1, 1, 1] []
noncomputable def f (n : Nat) (list : List (D_api_Tag)) : Option R := fRun (X n) n T Tryz.f129 ia io (list, ())
theorem e0 (n : Nat) (list : List (D_api_Tag)) : f n list =
  bIf ((hide (decide (((list.length : Nat) : Int) > (8 : Int))))) (
    some (false, ())
    ) (
    J1 n n (list, list, ((list.length : Nat) : Int), 0, ())
    ) := (hideF_eq _).trans (by kernel_rfl)
theorem e1 (n m : Nat) (list : List (D_api_Tag)) (t8 : List (D_api_Tag)) (t9 : Int) (t10 : Int) : J1 n (m + 1) (list, t8, t9, t10, ()) =
  bIf ((hide (decide (t10 < t9)))) (
    gIf (0 ≤ t10 ∧ t10 < ((t8.length : Nat) : Int)) (
      bnd (F_tags_good.f n (List.getD t8 t10.toNat (Va.dflt T_api_Tag))) fun u1 =>
      bIf ((!u1.1)) (
        some (false, ())
        ) (
        bIf ((hide (decide (t10 > (0 : Int))))) (
          gIf (0 ≤ (IntKind.i64.wrap (t10 - (1 : Int))) ∧ (IntKind.i64.wrap (t10 - (1 : Int))) < ((list.length : Nat) : Int)) (
            bIf ((hide (!ltS ((List.getD list ((IntKind.i64.wrap (t10 - (1 : Int))).toNat) (Va.dflt T_api_Tag)).1) ((List.getD t8 t10.toNat (Va.dflt T_api_Tag)).1)))) (
              some (false, ())
              ) (
              J1 n m (list, t8, t9, (IntKind.i64.wrap (t10 + (1 : Int))), ())
              )
            )
          ) (
          J1 n m (list, t8, t9, (IntKind.i64.wrap (t10 + (1 : Int))), ())
          )
        )
      )
    ) (
    J2 n (())
    ) := (hideF_eq _).trans (by kernel_rfl)
theorem e2 (n : Nat) : J2 n (()) =
  some (true, ()) := (hideF_eq _).trans (by kernel_rfl)
theorem phi (n : Nat) : ∀ e ∈ (X n).c.Φ, EntryOk Tryz.prog e := allE_cons (mkEntry_ok (F_tags_good.ok n)) (allE_nil)
theorem ok (n : Nat) : FnOk Tryz.prog 129 ia io (fRun (X n) n T Tryz.f129 ia io) := tree_ok mixed tabIs (phi n) Tryz.func129 (by kernel_rfl) rfl
noncomputable def en (n : Nat) : Entry := mkEntry 129 ia io (fRun (X n) n T Tryz.f129 ia io)
end F_tags_Sound
end Go.Proofs.YtcpkhpboemfglaaGreatDoor


namespace Go.Proofs.YtcpkhpboemfglaaGreatDoor
open Go Go.Va Go.Proofs
/- chartulary/chartularyref08.Sound -/
namespace F_ref08_Sound
abbrev ia : List Ai := [.dat (.slice T_api_Tag)]
abbrev io : List (Nat × Oi) := [(2, .dat .bool)]
abbrev R : Type := DOut ia io
noncomputable def X (n : Nat) : Ctx := ⟨⟨tab, [F_ref06_Clean.en n], 0, []⟩, 72, bnOf 0 ia⟩
abbrev g1 : List Si := [.dat 0 (.slice T_api_Tag), .dat 3 (.int .i64)]
abbrev g2 : List Si := [.dat 0 (.slice T_api_Tag), .dat 3 (.int .i64)]
abbrev g3 : List Si := [.dat 0 (.slice T_api_Tag), .dat 3 (.int .i64)]
abbrev g4 : List Si := []
noncomputable def T : CT := (.s .o (.s .o (.s (.s .o (.b (.l g1 (.s .o (.s (.b (.s .o (.r g2 .o))) (.r g3 .o)))))) (.r g4 .o))))
noncomputable def J1 (n : Nat) (m : Nat) : (List (D_api_Tag)) × Int × Unit → Option R := jL (X n) n T (bodyOf Tryz.f53) (endK ia io) g1 [1, 1, 0, 1, 0] [] m
noncomputable def J2 (n m1 : Nat) : (List (D_api_Tag)) × Int × Unit → Option R := jR (X n) n T (bodyOf Tryz.f53) (endK ia io) g2 [1, 1, 0, 1, 0, 0, 1, 0, 0, 1] [m1]
noncomputable def J3 (n m1 : Nat) : (List (D_api_Tag)) × Int × Unit → Option R := jR (X n) n T (bodyOf Tryz.f53) (endK ia io) g3 [1, 1, 0, 1, 0, 0, 1, 1] [m1]
noncomputable def J4 (n : Nat) : Unit → Option R := jR (X n) n T (bodyOf Tryz.f53) (endK ia io) g4 [1, 1, 1] []
noncomputable def f (n : Nat) (l : List (D_api_Tag)) : Option R := fRun (X n) n T Tryz.f53 ia io (l, ())
theorem e0 (n : Nat) (l : List (D_api_Tag)) : f n l =
  bIf ((hide (decide (((l.length : Nat) : Int) > (8 : Int))))) (
    some (false, ())
    ) (
    J1 n n (l, 0, ())
    ) := (hideF_eq _).trans (by kernel_rfl)
theorem e1 (n m : Nat) (l : List (D_api_Tag)) (i : Int) : J1 n (m + 1) (l, i, ()) =
  bIf ((hide (decide (i < ((l.length : Nat) : Int))))) (
    gIf (0 ≤ i ∧ i < ((l.length : Nat) : Int)) (
      bIf ((hide (decide ((((List.getD l i.toNat (Va.dflt T_api_Tag)).1).size : Int) < (1 : Int))))) (
        some (false, ())
        ) (
        gIf (0 ≤ i ∧ i < ((l.length : Nat) : Int)) (
          bIf ((hide (decide ((((List.getD l i.toNat (Va.dflt T_api_Tag)).1).size : Int) > (64 : Int))))) (
            some (false, ())
            ) (
            gIf (0 ≤ i ∧ i < ((l.length : Nat) : Int)) (
              bIf ((hide (decide (((((List.getD l i.toNat (Va.dflt T_api_Tag)).2).1).size : Int) > (64 : Int))))) (
                some (false, ())
                ) (
                gIf (0 ≤ i ∧ i < ((l.length : Nat) : Int)) (
                  bnd (F_ref06_Clean.f n ((List.getD l i.toNat (Va.dflt T_api_Tag)).1)) fun u1 =>
                  bIf ((!u1.1)) (
                    some (false, ())
                    ) (
                    gIf (0 ≤ i ∧ i < ((l.length : Nat) : Int)) (
                      bnd (F_ref06_Clean.f n (((List.getD l i.toNat (Va.dflt T_api_Tag)).2).1)) fun u2 =>
                      bIf ((!u2.1)) (
                        some (false, ())
                        ) (
                        J2 n m (l, i, ())
                        )
                      )
                    )
                  )
                )
              )
            )
          )
        )
      )
    ) (
    J4 n (())
    ) := (hideF_eq _).trans (by kernel_rfl)
theorem e2 (n m1 : Nat) (l : List (D_api_Tag)) (i : Int) : J2 n m1 (l, i, ()) =
  bIf ((hide (decide (i > (0 : Int))))) (
    gIf (0 ≤ i ∧ i < ((l.length : Nat) : Int)) (
      gIf (0 ≤ (IntKind.i64.wrap (i - (1 : Int))) ∧ (IntKind.i64.wrap (i - (1 : Int))) < ((l.length : Nat) : Int)) (
        bIf ((hide (ltS ((List.getD l i.toNat (Va.dflt T_api_Tag)).1) ((List.getD l ((IntKind.i64.wrap (i - (1 : Int))).toNat) (Va.dflt T_api_Tag)).1) || eqS ((List.getD l i.toNat (Va.dflt T_api_Tag)).1) ((List.getD l ((IntKind.i64.wrap (i - (1 : Int))).toNat) (Va.dflt T_api_Tag)).1)))) (
          some (false, ())
          ) (
          J3 n m1 (l, i, ())
          )
        )
      )
    ) (
    J3 n m1 (l, i, ())
    ) := (hideF_eq _).trans (by kernel_rfl)
theorem e3 (n m1 : Nat) (l : List (D_api_Tag)) (i : Int) : J3 n m1 (l, i, ()) =
  J1 n m1 (l, (IntKind.i64.wrap (i + (1 : Int))), ()) := (hideF_eq _).trans (by kernel_rfl)
theorem e4 (n : Nat) : J4 n (()) =
  some (true, ()) := (hideF_eq _).trans (by kernel_rfl)
theorem phi (n : Nat) : ∀ e ∈ (X n).c.Φ, EntryOk Tryz.prog e := allE_cons (mkEntry_ok (F_ref06_Clean.ok n)) (allE_nil)
theorem ok (n : Nat) : FnOk Tryz.prog 53 ia io (fRun (X n) n T Tryz.f53 ia io) := tree_ok mixed tabIs (phi n) Tryz.func53 (by kernel_rfl) rfl
noncomputable def en (n : Nat) : Entry := mkEntry 53 ia io (fRun (X n) n T Tryz.f53 ia io)
end F_ref08_Sound
end Go.Proofs.YtcpkhpboemfglaaGreatDoor


namespace Go.Proofs.YtcpkhpboemfglaaGreatDoor
open Go Go.Va Go.Proofs
/- slices.Equal[[]chartulary/api.Tag,chartulary/api.Tag] -/
namespace F_slices_Equal_Tag
abbrev ia : List Ai := [.dat (.slice T_api_Tag), .dat (.slice T_api_Tag)]
abbrev io : List (Nat × Oi) := [(4, .dat .bool)]
abbrev R : Type := DOut ia io
noncomputable def X (n : Nat) : Ctx := ⟨⟨tab, [], 0, []⟩, 26, bnOf 0 ia⟩
abbrev g1 : List Si := [.dat 0 (.slice T_api_Tag), .dat 1 (.slice T_api_Tag), .dat 12 (.int .i64), .dat 13 (.int .i64)]
abbrev g2 : List Si := []
noncomputable def T : CT := (.s .o (.s .o (.s (.s .o (.b (.l g1 .o))) (.r g2 .o))))
noncomputable def J1 (n : Nat) (m : Nat) : (List (D_api_Tag)) × (List (D_api_Tag)) × Int × Int × Unit → Option R := jL (X n) n T (bodyOf Tryz.f134) (endK ia io) g1 [1, 1, 0, 1, 0] [] m
noncomputable def J2 (n : Nat) : Unit → Option R := jR (X n) n T (bodyOf Tryz.f134) (endK ia io) g2 [1, 1, 1] []
noncomputable def f (n : Nat) (s1 : List (D_api_Tag)) (s2 : List (D_api_Tag)) : Option R := fRun (X n) n T Tryz.f134 ia io (s1, s2, ())
theorem e0 (n : Nat) (s1 : List (D_api_Tag)) (s2 : List (D_api_Tag)) : f n s1 s2 =
  bIf ((hide (((s1.length : Nat) : Int) != ((s2.length : Nat) : Int)))) (
    some (false, ())
    ) (
    J1 n n (s1, s2, ((s1.length : Nat) : Int), 0, ())
    ) := (hideF_eq _).trans (by kernel_rfl)
theorem e1 (n m : Nat) (s1 : List (D_api_Tag)) (s2 : List (D_api_Tag)) (t12 : Int) (t13 : Int) : J1 n (m + 1) (s1, s2, t12, t13, ()) =
  bIf ((hide (decide (t13 < t12)))) (
    gIf (0 ≤ t13 ∧ t13 < ((s1.length : Nat) : Int)) (
      gIf (0 ≤ t13 ∧ t13 < ((s2.length : Nat) : Int)) (
        bIf ((hide (!(eqD T_api_Tag (List.getD s1 t13.toNat (Va.dflt T_api_Tag)) (List.getD s2 t13.toNat (Va.dflt T_api_Tag)))))) (
          some (false, ())
          ) (
          J1 n m (s1, s2, t12, (IntKind.i64.wrap (t13 + (1 : Int))), ())
          )
        )
      )
    ) (
    J2 n (())
    ) := (hideF_eq _).trans (by kernel_rfl)
theorem e2 (n : Nat) : J2 n (()) =
  some (true, ()) := (hideF_eq _).trans (by kernel_rfl)
theorem phi (n : Nat) : ∀ e ∈ (X n).c.Φ, EntryOk Tryz.prog e := allE_nil
theorem ok (n : Nat) : FnOk Tryz.prog 134 ia io (fRun (X n) n T Tryz.f134 ia io) := tree_ok mixed tabIs (phi n) Tryz.func134 (by kernel_rfl) rfl
noncomputable def en (n : Nat) : Entry := mkEntry 134 ia io (fRun (X n) n T Tryz.f134 ia io)
end F_slices_Equal_Tag
end Go.Proofs.YtcpkhpboemfglaaGreatDoor


namespace Go.Proofs.YtcpkhpboemfglaaGreatDoor
open Go Go.Va Go.Proofs
/- chartulary/tags.Same -/
namespace F_tags_Same
abbrev ia : List Ai := [.dat (.slice T_api_Tag), .dat (.slice T_api_Tag)]
abbrev io : List (Nat × Oi) := [(4, .dat .bool)]
abbrev R : Type := DOut ia io
noncomputable def X (n : Nat) : Ctx := ⟨⟨tab, [F_slices_Equal_Tag.en n], 0, []⟩, 8, bnOf 0 ia⟩
noncomputable def T : CT := .o
noncomputable def f (n : Nat) (a : List (D_api_Tag)) (b : List (D_api_Tag)) : Option R := fRun (X n) n T Tryz.f59 ia io (a, b, ())
theorem e0 (n : Nat) (a : List (D_api_Tag)) (b : List (D_api_Tag)) : f n a b =
  bnd (F_slices_Equal_Tag.f n a b) fun u1 =>
  some (u1.1, ()) := (hideF_eq _).trans (by kernel_rfl)
theorem phi (n : Nat) : ∀ e ∈ (X n).c.Φ, EntryOk Tryz.prog e := allE_cons (mkEntry_ok (F_slices_Equal_Tag.ok n)) (allE_nil)
theorem ok (n : Nat) : FnOk Tryz.prog 59 ia io (fRun (X n) n T Tryz.f59 ia io) := tree_ok mixed tabIs (phi n) Tryz.func59 (by kernel_rfl) rfl
noncomputable def en (n : Nat) : Entry := mkEntry 59 ia io (fRun (X n) n T Tryz.f59 ia io)
end F_tags_Same
end Go.Proofs.YtcpkhpboemfglaaGreatDoor


namespace Go.Proofs.YtcpkhpboemfglaaGreatDoor
open Go Go.Va Go.Proofs
/- chartulary/chartularyref08.Same -/
namespace F_ref08_Same
abbrev ia : List Ai := [.dat (.slice T_api_Tag), .dat (.slice T_api_Tag)]
abbrev io : List (Nat × Oi) := [(4, .dat .bool)]
abbrev R : Type := DOut ia io
noncomputable def X (n : Nat) : Ctx := ⟨⟨tab, [], 0, []⟩, 41, bnOf 0 ia⟩
abbrev g1 : List Si := [.dat 0 (.slice T_api_Tag), .dat 1 (.slice T_api_Tag), .dat 5 (.int .i64)]
abbrev g2 : List Si := [.dat 0 (.slice T_api_Tag), .dat 1 (.slice T_api_Tag), .dat 5 (.int .i64)]
abbrev g3 : List Si := []
noncomputable def T : CT := (.s .o (.s .o (.s (.s .o (.b (.l g1 (.s .o (.s .o (.r g2 .o)))))) (.r g3 .o))))
noncomputable def J1 (n : Nat) (m : Nat) : (List (D_api_Tag)) × (List (D_api_Tag)) × Int × Unit → Option R := jL (X n) n T (bodyOf Tryz.f62) (endK ia io) g1 [1, 1, 0, 1, 0] [] m
noncomputable def J2 (n m1 : Nat) : (List (D_api_Tag)) × (List (D_api_Tag)) × Int × Unit → Option R := jR (X n) n T (bodyOf Tryz.f62) (endK ia io) g2 [1, 1, 0, 1, 0, 0, 1, 1] [m1]
noncomputable def J3 (n : Nat) : Unit → Option R := jR (X n) n T (bodyOf Tryz.f62) (endK ia io) g3 [1, 1, 1] []
noncomputable def f (n : Nat) (a : List (D_api_Tag)) (b : List (D_api_Tag)) : Option R := fRun (X n) n T Tryz.f62 ia io (a, b, ())
theorem e0 (n : Nat) (a : List (D_api_Tag)) (b : List (D_api_Tag)) : f n a b =
  bIf ((hide (((a.length : Nat) : Int) != ((b.length : Nat) : Int)))) (
    some (false, ())
    ) (
    J1 n n (a, b, 0, ())
    ) := (hideF_eq _).trans (by kernel_rfl)
theorem e1 (n m : Nat) (a : List (D_api_Tag)) (b : List (D_api_Tag)) (i : Int) : J1 n (m + 1) (a, b, i, ()) =
  bIf ((hide (decide (i < ((a.length : Nat) : Int))))) (
    gIf (0 ≤ i ∧ i < ((a.length : Nat) : Int)) (
      gIf (0 ≤ i ∧ i < ((b.length : Nat) : Int)) (
        bIf ((hide (!eqS ((List.getD a i.toNat (Va.dflt T_api_Tag)).1) ((List.getD b i.toNat (Va.dflt T_api_Tag)).1)))) (
          some (false, ())
          ) (
          gIf (0 ≤ i ∧ i < ((a.length : Nat) : Int)) (
            gIf (0 ≤ i ∧ i < ((b.length : Nat) : Int)) (
              bIf ((hide (!eqS (((List.getD a i.toNat (Va.dflt T_api_Tag)).2).1) (((List.getD b i.toNat (Va.dflt T_api_Tag)).2).1)))) (
                some (false, ())
                ) (
                J2 n m (a, b, i, ())
                )
              )
            )
          )
        )
      )
    ) (
    J3 n (())
    ) := (hideF_eq _).trans (by kernel_rfl)
theorem e2 (n m1 : Nat) (a : List (D_api_Tag)) (b : List (D_api_Tag)) (i : Int) : J2 n m1 (a, b, i, ()) =
  J1 n m1 (a, b, (IntKind.i64.wrap (i + (1 : Int))), ()) := (hideF_eq _).trans (by kernel_rfl)
theorem e3 (n : Nat) : J3 n (()) =
  some (true, ()) := (hideF_eq _).trans (by kernel_rfl)
theorem phi (n : Nat) : ∀ e ∈ (X n).c.Φ, EntryOk Tryz.prog e := allE_nil
theorem ok (n : Nat) : FnOk Tryz.prog 62 ia io (fRun (X n) n T Tryz.f62 ia io) := tree_ok mixed tabIs (phi n) Tryz.func62 (by kernel_rfl) rfl
noncomputable def en (n : Nat) : Entry := mkEntry 62 ia io (fRun (X n) n T Tryz.f62 ia io)
end F_ref08_Same
end Go.Proofs.YtcpkhpboemfglaaGreatDoor


namespace Go.Proofs.YtcpkhpboemfglaaGreatDoor
open Go Go.Va Go.Proofs
/- chartulary/label.Key -/
namespace F_label_Key
abbrev ia : List Ai := [.dat .str]
abbrev io : List (Nat × Oi) := [(2, .dat .bool)]
abbrev R : Type := DOut ia io
noncomputable def X (n : Nat) : Ctx := ⟨⟨tab, [F_label_Clean.en n], 0, []⟩, 14, bnOf 0 ia⟩
noncomputable def T : CT := .o
noncomputable def f (n : Nat) (s_ : ByteArray) : Option R := fRun (X n) n T Tryz.f123 ia io (s_, ())
theorem e0 (n : Nat) (s_ : ByteArray) : f n s_ =
  bIf ((hide (!eqS s_ (⟨#[]⟩ : ByteArray)))) (
    bIf ((hide (decide ((s_.size : Int) ≤ (200 : Int))))) (
      bnd (F_label_Clean.f n s_) fun u1 =>
      some (u1.1, ())
      ) (
      some (false, ())
      )
    ) (
    some (false, ())
    ) := (hideF_eq _).trans (by kernel_rfl)
theorem phi (n : Nat) : ∀ e ∈ (X n).c.Φ, EntryOk Tryz.prog e := allE_cons (mkEntry_ok (F_label_Clean.ok n)) (allE_nil)
theorem ok (n : Nat) : FnOk Tryz.prog 123 ia io (fRun (X n) n T Tryz.f123 ia io) := tree_ok mixed tabIs (phi n) Tryz.func123 (by kernel_rfl) rfl
noncomputable def en (n : Nat) : Entry := mkEntry 123 ia io (fRun (X n) n T Tryz.f123 ia io)
end F_label_Key
end Go.Proofs.YtcpkhpboemfglaaGreatDoor


namespace Go.Proofs.YtcpkhpboemfglaaGreatDoor
open Go Go.Va Go.Proofs
/- chartulary/chartularyref06.Key -/
namespace F_ref06_Key
abbrev ia : List Ai := [.dat .str]
abbrev io : List (Nat × Oi) := [(2, .dat .bool)]
abbrev R : Type := DOut ia io
noncomputable def X (n : Nat) : Ctx := ⟨⟨tab, [F_ref06_Clean.en n], 0, []⟩, 15, bnOf 0 ia⟩
noncomputable def T : CT := .o
noncomputable def f (n : Nat) (s_ : ByteArray) : Option R := fRun (X n) n T Tryz.f49 ia io (s_, ())
theorem e0 (n : Nat) (s_ : ByteArray) : f n s_ =
  bIf ((hide (decide ((s_.size : Int) ≥ (1 : Int))))) (
    bIf ((hide (decide ((s_.size : Int) ≤ (200 : Int))))) (
      bnd (F_ref06_Clean.f n s_) fun u1 =>
      some (u1.1, ())
      ) (
      some (false, ())
      )
    ) (
    some (false, ())
    ) := (hideF_eq _).trans (by kernel_rfl)
theorem phi (n : Nat) : ∀ e ∈ (X n).c.Φ, EntryOk Tryz.prog e := allE_cons (mkEntry_ok (F_ref06_Clean.ok n)) (allE_nil)
theorem ok (n : Nat) : FnOk Tryz.prog 49 ia io (fRun (X n) n T Tryz.f49 ia io) := tree_ok mixed tabIs (phi n) Tryz.func49 (by kernel_rfl) rfl
noncomputable def en (n : Nat) : Entry := mkEntry 49 ia io (fRun (X n) n T Tryz.f49 ia io)
end F_ref06_Key
end Go.Proofs.YtcpkhpboemfglaaGreatDoor


namespace Go.Proofs.YtcpkhpboemfglaaGreatDoor
open Go Go.Va Go.Proofs
/- chartulary/object.Good -/
namespace F_object_Good
abbrev ia : List Ai := [.dat T_api_Version]
abbrev io : List (Nat × Oi) := [(2, .dat .bool)]
abbrev R : Type := DOut ia io
noncomputable def X (n : Nat) : Ctx := ⟨⟨tab, [F_when_Clamp.en n, F_mode_Sound.en n, F_tags_Sound.en n], 0, []⟩, 65, bnOf 0 ia⟩
abbrev g1 : List Si := [.ref 1 1 T_api_Version, .box 1 (.d T_api_Version)]
noncomputable def T : CT := (.s .o (.s .o (.r g1 .o)))
noncomputable def J1 (n : Nat) : D_api_Version × Unit → Option R := jR (X n) n T (bodyOf Tryz.f127) (endK ia io) g1 [1, 1] []
noncomputable def f (n : Nat) (v_ : D_api_Version) : Option R := fRun (X n) n T Tryz.f127 ia io (v_, ())
theorem e0 (n : Nat) (v_ : D_api_Version) : f n v_ =
  bIf ((hide (v_.1 == (0 : Int)))) (
    some (false, ())
    ) (
    bnd (F_when_Clamp.f n v_.2.2.2.2.2.1) fun u1 =>
    bIf ((hide (v_.2.2.2.2.2.1 != u1.1))) (
      some (false, ())
      ) (
      J1 n (v_, ())
      )
    ) := (hideF_eq _).trans (by kernel_rfl)
theorem e1 (n : Nat) (v_ : D_api_Version) : J1 n (v_, ()) =
  bIf (v_.2.1) (
    bIf ((hide (v_.2.2.1 == (0 : Int)))) (
      bIf ((hide (v_.2.2.2.1 == (0 : Int)))) (
        bIf ((hide (eqD (.arr 32 (.int .u8)) v_.2.2.2.2.1 ([] ++ List.replicate (32 - ([] : List (Int)).length) 0)))) (
          bIf ((hide (eqD T_api_Lock v_.2.2.2.2.2.2.1 (0, (0, (false, ())))))) (
            some ((hide (((v_.2.2.2.2.2.2.2.1.length : Nat) : Int) == (0 : Int))), ())
            ) (
            some (false, ())
            )
          ) (
          some (false, ())
          )
        ) (
        some (false, ())
        )
      ) (
      some (false, ())
      )
    ) (
    bIf ((hide (decide (v_.2.2.1 ≥ (0 : Int))))) (
      bIf ((hide (decide (v_.2.2.1 ≤ (16384 : Int))))) (
        bIf ((hide (decide (v_.2.2.2.1 > (0 : Int))))) (
          bnd (F_mode_Sound.f n v_.2.2.2.2.2.2.1) fun u1 =>
          bIf (u1.1) (
            bnd (F_tags_Sound.f n v_.2.2.2.2.2.2.2.1) fun u2 =>
            some (u2.1, ())
            ) (
            some (false, ())
            )
          ) (
          some (false, ())
          )
        ) (
        some (false, ())
        )
      ) (
      some (false, ())
      )
    ) := (hideF_eq _).trans (by kernel_rfl)
theorem phi (n : Nat) : ∀ e ∈ (X n).c.Φ, EntryOk Tryz.prog e := allE_cons (mkEntry_ok (F_when_Clamp.ok n)) (allE_cons (mkEntry_ok (F_mode_Sound.ok n)) (allE_cons (mkEntry_ok (F_tags_Sound.ok n)) (allE_nil)))
theorem ok (n : Nat) : FnOk Tryz.prog 127 ia io (fRun (X n) n T Tryz.f127 ia io) := tree_ok mixed tabIs (phi n) Tryz.func127 (by kernel_rfl) rfl
noncomputable def en (n : Nat) : Entry := mkEntry 127 ia io (fRun (X n) n T Tryz.f127 ia io)
end F_object_Good
end Go.Proofs.YtcpkhpboemfglaaGreatDoor


namespace Go.Proofs.YtcpkhpboemfglaaGreatDoor
open Go Go.Va Go.Proofs
/- chartulary/chartularyref13.Good -/
namespace F_ref13_Good
abbrev ia : List Ai := [.dat T_api_Version]
abbrev io : List (Nat × Oi) := [(2, .dat .bool)]
abbrev R : Type := DOut ia io
noncomputable def X (n : Nat) : Ctx := ⟨⟨tab, [F_ref05_Clamp.en n, F_ref12_Sound.en n, F_ref08_Sound.en n], 0, []⟩, 82, bnOf 0 ia⟩
abbrev g1 : List Si := [.ref 1 1 T_api_Version, .box 1 (.d T_api_Version)]
abbrev g2 : List Si := [.ref 1 1 T_api_Version, .dat 3 (.int .i64), .box 1 (.d T_api_Version)]
abbrev g3 : List Si := [.ref 1 1 T_api_Version, .box 1 (.d T_api_Version)]
noncomputable def T : CT := (.s .o (.s .o (.r g1 (.s .o (.s (.s .o (.b (.l g2 .o))) (.r g3 .o))))))
noncomputable def J1 (n : Nat) : D_api_Version × Unit → Option R := jR (X n) n T (bodyOf Tryz.f50) (endK ia io) g1 [1, 1] []
noncomputable def J2 (n : Nat) (m : Nat) : Int × D_api_Version × Unit → Option R := jL (X n) n T (bodyOf Tryz.f50) (endK ia io) g2 [1, 1, 1, 0, 1, 0] [] m
noncomputable def J3 (n : Nat) : D_api_Version × Unit → Option R := jR (X n) n T (bodyOf Tryz.f50) (endK ia io) g3 [1, 1, 1, 1] []
noncomputable def f (n : Nat) (v_ : D_api_Version) : Option R := fRun (X n) n T Tryz.f50 ia io (v_, ())
theorem e0 (n : Nat) (v_ : D_api_Version) : f n v_ =
  bIf ((hide (decide (v_.1 < (1 : Int))))) (
    some (false, ())
    ) (
    bnd (F_ref05_Clamp.f n v_.2.2.2.2.2.1) fun u1 =>
    bIf ((hide (u1.1 != v_.2.2.2.2.2.1))) (
      some (false, ())
      ) (
      J1 n (v_, ())
      )
    ) := (hideF_eq _).trans (by kernel_rfl)
theorem e1 (n : Nat) (v_ : D_api_Version) : J1 n (v_, ()) =
  bIf ((!v_.2.1)) (
    bIf ((hide (decide (v_.2.2.1 ≥ (0 : Int))))) (
      bIf ((hide (decide (v_.2.2.1 ≤ (16384 : Int))))) (
        bIf ((hide (decide (v_.2.2.2.1 ≥ (1 : Int))))) (
          bnd (F_ref12_Sound.f n v_.2.2.2.2.2.2.1) fun u1 =>
          bIf (u1.1) (
            bnd (F_ref08_Sound.f n v_.2.2.2.2.2.2.2.1) fun u2 =>
            some (u2.1, ())
            ) (
            some (false, ())
            )
          ) (
          some (false, ())
          )
        ) (
        some (false, ())
        )
      ) (
      some (false, ())
      )
    ) (
    J2 n n (0, v_, ())
    ) := (hideF_eq _).trans (by kernel_rfl)
theorem e2 (n m : Nat) (i : Int) (v_ : D_api_Version) : J2 n (m + 1) (i, v_, ()) =
  bIf ((hide (decide (i < (32 : Int))))) (
    gIf (0 ≤ i ∧ i < ((32 : Nat) : Int)) (
      bIf ((hide ((List.getD v_.2.2.2.2.1 i.toNat 0) != (0 : Int)))) (
        some (false, ())
        ) (
        J2 n m ((IntKind.i64.wrap (i + (1 : Int))), v_, ())
        )
      )
    ) (
    J3 n (v_, ())
    ) := (hideF_eq _).trans (by kernel_rfl)
theorem e3 (n : Nat) (v_ : D_api_Version) : J3 n (v_, ()) =
  bIf ((hide (v_.2.2.1 == (0 : Int)))) (
    bIf ((hide (v_.2.2.2.1 == (0 : Int)))) (
      bIf ((hide (v_.2.2.2.2.2.2.1.1 == (0 : Int)))) (
        bIf ((hide (v_.2.2.2.2.2.2.1.2.1 == (0 : Int)))) (
          bIf ((!v_.2.2.2.2.2.2.1.2.2.1)) (
            some ((hide (((v_.2.2.2.2.2.2.2.1.length : Nat) : Int) == (0 : Int))), ())
            ) (
            some (false, ())
            )
          ) (
          some (false, ())
          )
        ) (
        some (false, ())
        )
      ) (
      some (false, ())
      )
    ) (
    some (false, ())
    ) := (hideF_eq _).trans (by kernel_rfl)
theorem phi (n : Nat) : ∀ e ∈ (X n).c.Φ, EntryOk Tryz.prog e := allE_cons (mkEntry_ok (F_ref05_Clamp.ok n)) (allE_cons (mkEntry_ok (F_ref12_Sound.ok n)) (allE_cons (mkEntry_ok (F_ref08_Sound.ok n)) (allE_nil)))
theorem ok (n : Nat) : FnOk Tryz.prog 50 ia io (fRun (X n) n T Tryz.f50 ia io) := tree_ok mixed tabIs (phi n) Tryz.func50 (by kernel_rfl) rfl
noncomputable def en (n : Nat) : Entry := mkEntry 50 ia io (fRun (X n) n T Tryz.f50 ia io)
end F_ref13_Good
end Go.Proofs.YtcpkhpboemfglaaGreatDoor


namespace Go.Proofs.YtcpkhpboemfglaaGreatDoor
open Go Go.Va Go.Proofs
/- chartulary/object.SameVersion -/
namespace F_object_SameVersion
abbrev ia : List Ai := [.dat T_api_Version, .dat T_api_Version]
abbrev io : List (Nat × Oi) := [(4, .dat .bool)]
abbrev R : Type := DOut ia io
noncomputable def X (n : Nat) : Ctx := ⟨⟨tab, [F_tags_Same.en n], 0, []⟩, 61, bnOf 0 ia⟩
noncomputable def T : CT := .o
noncomputable def f (n : Nat) (a : D_api_Version) (b : D_api_Version) : Option R := fRun (X n) n T Tryz.f58 ia io (a, b, ())
theorem e0 (n : Nat) (a : D_api_Version) (b : D_api_Version) : f n a b =
  bnd (F_tags_Same.f n a.2.2.2.2.2.2.2.1 b.2.2.2.2.2.2.2.1) fun u1 =>
  bIf (u1.1) (
    bIf ((hide (a.1 == b.1))) (
      bIf ((hide (a.2.1 == b.2.1))) (
        bIf ((hide (a.2.2.1 == b.2.2.1))) (
          bIf ((hide (a.2.2.2.1 == b.2.2.2.1))) (
            bIf ((hide (eqD (.arr 32 (.int .u8)) a.2.2.2.2.1 b.2.2.2.2.1))) (
              bIf ((hide (a.2.2.2.2.2.1 == b.2.2.2.2.2.1))) (
                some ((hide (eqD T_api_Lock a.2.2.2.2.2.2.1 b.2.2.2.2.2.2.1)), ())
                ) (
                some (false, ())
                )
              ) (
              some (false, ())
              )
            ) (
            some (false, ())
            )
          ) (
          some (false, ())
          )
        ) (
        some (false, ())
        )
      ) (
      some (false, ())
      )
    ) (
    some (false, ())
    ) := (hideF_eq _).trans (by kernel_rfl)
theorem phi (n : Nat) : ∀ e ∈ (X n).c.Φ, EntryOk Tryz.prog e := allE_cons (mkEntry_ok (F_tags_Same.ok n)) (allE_nil)
theorem ok (n : Nat) : FnOk Tryz.prog 58 ia io (fRun (X n) n T Tryz.f58 ia io) := tree_ok mixed tabIs (phi n) Tryz.func58 (by kernel_rfl) rfl
noncomputable def en (n : Nat) : Entry := mkEntry 58 ia io (fRun (X n) n T Tryz.f58 ia io)
end F_object_SameVersion
end Go.Proofs.YtcpkhpboemfglaaGreatDoor


namespace Go.Proofs.YtcpkhpboemfglaaGreatDoor
open Go Go.Va Go.Proofs
/- chartulary/chartularyref13.SameVersion -/
namespace F_ref13_SameVersion
abbrev ia : List Ai := [.dat T_api_Version, .dat T_api_Version]
abbrev io : List (Nat × Oi) := [(4, .dat .bool)]
abbrev R : Type := DOut ia io
noncomputable def X (n : Nat) : Ctx := ⟨⟨tab, [F_ref08_Same.en n], 0, []⟩, 57, bnOf 0 ia⟩
abbrev g1 : List Si := [.ref 2 2 T_api_Version, .ref 3 3 T_api_Version, .box 2 (.d T_api_Version), .box 3 (.d T_api_Version)]
noncomputable def T : CT := (.s .o (.s .o (.r g1 .o)))
noncomputable def J1 (n : Nat) : D_api_Version × D_api_Version × Unit → Option R := jR (X n) n T (bodyOf Tryz.f51) (endK ia io) g1 [1, 1] []
noncomputable def f (n : Nat) (a : D_api_Version) (b : D_api_Version) : Option R := fRun (X n) n T Tryz.f51 ia io (a, b, ())
theorem e0 (n : Nat) (a : D_api_Version) (b : D_api_Version) : f n a b =
  bIf ((hide (a.1 != b.1))) (
    some (false, ())
    ) (
    bIf ((hide (!(a.2.1 == b.2.1)))) (
      some (false, ())
      ) (
      bIf ((hide (a.2.2.1 != b.2.2.1))) (
        some (false, ())
        ) (
        bIf ((hide (a.2.2.2.1 != b.2.2.2.1))) (
          some (false, ())
          ) (
          bIf ((hide (a.2.2.2.2.2.1 != b.2.2.2.2.2.1))) (
            some (false, ())
            ) (
            bIf ((hide (!(eqD T_api_Lock a.2.2.2.2.2.2.1 b.2.2.2.2.2.2.1)))) (
              some (false, ())
              ) (
              J1 n (a, b, ())
              )
            )
          )
        )
      )
    ) := (hideF_eq _).trans (by kernel_rfl)
theorem e1 (n : Nat) (a : D_api_Version) (b : D_api_Version) : J1 n (a, b, ()) =
  bIf ((hide (eqD (.arr 32 (.int .u8)) a.2.2.2.2.1 b.2.2.2.2.1))) (
    bnd (F_ref08_Same.f n a.2.2.2.2.2.2.2.1 b.2.2.2.2.2.2.2.1) fun u1 =>
    some (u1.1, ())
    ) (
    some (false, ())
    ) := (hideF_eq _).trans (by kernel_rfl)
theorem phi (n : Nat) : ∀ e ∈ (X n).c.Φ, EntryOk Tryz.prog e := allE_cons (mkEntry_ok (F_ref08_Same.ok n)) (allE_nil)
theorem ok (n : Nat) : FnOk Tryz.prog 51 ia io (fRun (X n) n T Tryz.f51 ia io) := tree_ok mixed tabIs (phi n) Tryz.func51 (by kernel_rfl) rfl
noncomputable def en (n : Nat) : Entry := mkEntry 51 ia io (fRun (X n) n T Tryz.f51 ia io)
end F_ref13_SameVersion
end Go.Proofs.YtcpkhpboemfglaaGreatDoor


namespace Go.Proofs.YtcpkhpboemfglaaGreatDoor
open Go Go.Va Go.Proofs
/- chartulary/mode.Good -/
namespace F_mode_Good
abbrev ia : List Ai := [.dat T_api_Default]
abbrev io : List (Nat × Oi) := [(2, .dat .bool)]
abbrev R : Type := DOut ia io
noncomputable def X (n : Nat) : Ctx := ⟨⟨tab, [], 0, []⟩, 21, bnOf 0 ia⟩
abbrev g1 : List Si := [.ref 1 1 T_api_Default, .dat 10 .bool, .box 1 (.d T_api_Default)]
noncomputable def T : CT := (.s .o (.s (.s .o (.b (.s .o (.c .o (.s .o (.r g1 .o)))))) .o))
noncomputable def J1 (n : Nat) : Bool × D_api_Default × Unit → Option R := jR (X n) n T (bodyOf Tryz.f124) (endK ia io) g1 [1, 0, 1, 0, 1, 1, 1] []
noncomputable def f (n : Nat) (d : D_api_Default) : Option R := fRun (X n) n T Tryz.f124 ia io (d, ())
theorem e0 (n : Nat) (d : D_api_Default) : f n d =
  bIf ((hide (d.1 == (0 : Int)))) (
    some ((hide (d.2.1 == (0 : Int))), ())
    ) (
    bIf ((hide (d.1 == (1 : Int)))) (
      J1 n (true, d, ())
      ) (
      J1 n ((hide (d.1 == (2 : Int))), d, ())
      )
    ) := (hideF_eq _).trans (by kernel_rfl)
theorem e1 (n : Nat) (t10 : Bool) (d : D_api_Default) : J1 n (t10, d, ()) =
  bIf (t10) (
    bIf ((hide (decide (d.2.1 ≥ (1 : Int))))) (
      some ((hide (decide (d.2.1 ≤ (36500 : Int)))), ())
      ) (
      some (false, ())
      )
    ) (
    some (false, ())
    ) := (hideF_eq _).trans (by kernel_rfl)
theorem phi (n : Nat) : ∀ e ∈ (X n).c.Φ, EntryOk Tryz.prog e := allE_nil
theorem ok (n : Nat) : FnOk Tryz.prog 124 ia io (fRun (X n) n T Tryz.f124 ia io) := tree_ok mixed tabIs (phi n) Tryz.func124 (by kernel_rfl) rfl
noncomputable def en (n : Nat) : Entry := mkEntry 124 ia io (fRun (X n) n T Tryz.f124 ia io)
end F_mode_Good
end Go.Proofs.YtcpkhpboemfglaaGreatDoor


namespace Go.Proofs.YtcpkhpboemfglaaGreatDoor
open Go Go.Va Go.Proofs
/- chartulary/chartularyref12.Good -/
namespace F_ref12_Good
abbrev ia : List Ai := [.dat T_api_Default]
abbrev io : List (Nat × Oi) := [(2, .dat .bool)]
abbrev R : Type := DOut ia io
noncomputable def X (n : Nat) : Ctx := ⟨⟨tab, [], 0, []⟩, 27, bnOf 0 ia⟩
noncomputable def T : CT := .o
noncomputable def f (n : Nat) (d : D_api_Default) : Option R := fRun (X n) n T Tryz.f54 ia io (d, ())
theorem e0 (n : Nat) (d : D_api_Default) : f n d =
  bIf ((hide (d.1 == (0 : Int)))) (
    some ((hide (d.2.1 == (0 : Int))), ())
    ) (
    bIf ((hide (d.1 == (1 : Int)))) (
      bIf ((hide (decide (d.2.1 ≥ (1 : Int))))) (
        some ((hide (decide (d.2.1 ≤ (36500 : Int)))), ())
        ) (
        some (false, ())
        )
      ) (
      bIf ((hide (d.1 == (2 : Int)))) (
        bIf ((hide (decide (d.2.1 ≥ (1 : Int))))) (
          some ((hide (decide (d.2.1 ≤ (36500 : Int)))), ())
          ) (
          some (false, ())
          )
        ) (
        some (false, ())
        )
      )
    ) := (hideF_eq _).trans (by kernel_rfl)
theorem phi (n : Nat) : ∀ e ∈ (X n).c.Φ, EntryOk Tryz.prog e := allE_nil
theorem ok (n : Nat) : FnOk Tryz.prog 54 ia io (fRun (X n) n T Tryz.f54 ia io) := tree_ok mixed tabIs (phi n) Tryz.func54 (by kernel_rfl) rfl
noncomputable def en (n : Nat) : Entry := mkEntry 54 ia io (fRun (X n) n T Tryz.f54 ia io)
end F_ref12_Good
end Go.Proofs.YtcpkhpboemfglaaGreatDoor


namespace Go.Proofs.YtcpkhpboemfglaaGreatDoor
open Go Go.Va Go.Proofs
/- chartulary/glob.pieces -/
namespace F_glob_pieces
abbrev ia : List Ai := [.dat .str]
abbrev io : List (Nat × Oi) := [(2, .val (.r 0 T_glob_piece)), (3, .dat .bool)]
abbrev R : Type := DOut ia io
noncomputable def X (n : Nat) : Ctx := ⟨⟨tab, [], 0, []⟩, 46, bnOf 0 ia⟩
abbrev g1 : List Si := [.dat 0 .str, .val 4 (.r 200400 T_glob_piece), .dat 5 (.int .i64)]
abbrev g2 : List Si := [.dat 0 .str, .val 4 (.r 200400 T_glob_piece), .dat 5 (.int .i64)]
abbrev g3 : List Si := [.dat 0 .str, .val 4 (.r 200400 T_glob_piece), .dat 5 (.int .i64)]
abbrev g4 : List Si := [.val 4 (.r 200400 T_glob_piece)]
noncomputable def T : CT := (.s .o (.s .o (.s .o (.s (.s .o (.b (.l g1 (.s .o (.s (.b (.s .o (.b (.s .o (.r g2 .o))))) (.r g3 .o)))))) (.r g4 .o)))))
noncomputable def J1 (n : Nat) (m : Nat) : ByteArray × (List (D_glob_piece)) × Int × Unit → Option R := jL (X n) n T (bodyOf Tryz.f214) (endK ia io) g1 [1, 1, 1, 0, 1, 0] [] m
noncomputable def J2 (n m1 : Nat) : ByteArray × (List (D_glob_piece)) × Int × Unit → Option R := jR (X n) n T (bodyOf Tryz.f214) (endK ia io) g2 [1, 1, 1, 0, 1, 0, 0, 1, 0, 0, 1, 0, 1] [m1]
noncomputable def J3 (n m1 : Nat) : ByteArray × (List (D_glob_piece)) × Int × Unit → Option R := jR (X n) n T (bodyOf Tryz.f214) (endK ia io) g3 [1, 1, 1, 0, 1, 0, 0, 1, 1] [m1]
noncomputable def J4 (n : Nat) : (List (D_glob_piece)) × Unit → Option R := jR (X n) n T (bodyOf Tryz.f214) (endK ia io) g4 [1, 1, 1, 1] []
noncomputable def f (n : Nat) (p : ByteArray) : Option R := fRun (X n) n T Tryz.f214 ia io (p, ())
theorem e0 (n : Nat) (p : ByteArray) : f n p =
  bIf ((hide (decide ((p.size : Int) > (200 : Int))))) (
    some ([], false, ())
    ) (
    J1 n n (p, [], 0, ())
    ) := (hideF_eq _).trans (by kernel_rfl)
theorem e1 (n m : Nat) (p : ByteArray) (out : List (D_glob_piece)) (i : Int) : J1 n (m + 1) (p, out, i, ()) =
  bIf ((hide (decide (i < (p.size : Int))))) (
    gIf (0 ≤ i ∧ i < (p.size : Int)) (
      bIf ((hide ((bt p i) == (42 : Int)))) (
        gIf ((out.length + 1) * 16 ≤ 70368744177664) (
          J3 n m (p, (out ++ ([(2, (0, ()))] : List (D_glob_piece))), i, ())
          )
        ) (
        bIf ((hide ((bt p i) == (63 : Int)))) (
          gIf ((out.length + 1) * 16 ≤ 70368744177664) (
            J3 n m (p, (out ++ ([(1, (0, ()))] : List (D_glob_piece))), i, ())
            )
          ) (
          bIf ((hide ((bt p i) == (92 : Int)))) (
            bIf ((hide ((IntKind.i64.wrap (i + (1 : Int))) == (p.size : Int)))) (
              some ([], false, ())
              ) (
              J2 n m (p, out, (IntKind.i64.wrap (i + (1 : Int))), ())
              )
            ) (
            J2 n m (p, out, i, ())
            )
          )
        )
      )
    ) (
    J4 n (out, ())
    ) := (hideF_eq _).trans (by kernel_rfl)
theorem e2 (n m1 : Nat) (p : ByteArray) (out : List (D_glob_piece)) (i : Int) : J2 n m1 (p, out, i, ()) =
  gIf (0 ≤ i ∧ i < (p.size : Int)) (
    gIf ((out.length + 1) * 16 ≤ 70368744177664) (
      J3 n m1 (p, (out ++ ([(0, ((bt p i), ()))] : List (D_glob_piece))), i, ())
      )
    ) := (hideF_eq _).trans (by kernel_rfl)
theorem e3 (n m1 : Nat) (p : ByteArray) (out : List (D_glob_piece)) (i : Int) : J3 n m1 (p, out, i, ()) =
  J1 n m1 (p, out, (IntKind.i64.wrap (i + (1 : Int))), ()) := (hideF_eq _).trans (by kernel_rfl)
theorem e4 (n : Nat) (out : List (D_glob_piece)) : J4 n (out, ()) =
  some (out, true, ()) := (hideF_eq _).trans (by kernel_rfl)
theorem phi (n : Nat) : ∀ e ∈ (X n).c.Φ, EntryOk Tryz.prog e := allE_nil
theorem ok (n : Nat) : FnOk Tryz.prog 214 ia io (fRun (X n) n T Tryz.f214 ia io) := tree_ok mixed tabIs (phi n) Tryz.func214 (by kernel_rfl) rfl
noncomputable def en (n : Nat) : Entry := mkEntry 214 ia io (fRun (X n) n T Tryz.f214 ia io)
end F_glob_pieces
end Go.Proofs.YtcpkhpboemfglaaGreatDoor


namespace Go.Proofs.YtcpkhpboemfglaaGreatDoor
open Go Go.Va Go.Proofs
/- chartulary/glob.Sound -/
namespace F_glob_Sound
abbrev ia : List Ai := [.dat .str]
abbrev io : List (Nat × Oi) := [(2, .dat .bool)]
abbrev R : Type := DOut ia io
noncomputable def X (n : Nat) : Ctx := ⟨⟨tab, [F_glob_pieces.en n], 0, []⟩, 11, bnOf 0 ia⟩
noncomputable def T : CT := .o
noncomputable def f (n : Nat) (p : ByteArray) : Option R := fRun (X n) n T Tryz.f182 ia io (p, ())
theorem e0 (n : Nat) (p : ByteArray) : f n p =
  bnd (F_glob_pieces.f n p) fun u1 =>
  some (u1.2.1, ()) := (hideF_eq _).trans (by kernel_rfl)
theorem phi (n : Nat) : ∀ e ∈ (X n).c.Φ, EntryOk Tryz.prog e := allE_cons (mkEntry_ok (F_glob_pieces.ok n)) (allE_nil)
theorem ok (n : Nat) : FnOk Tryz.prog 182 ia io (fRun (X n) n T Tryz.f182 ia io) := tree_ok mixed tabIs (phi n) Tryz.func182 (by kernel_rfl) rfl
noncomputable def en (n : Nat) : Entry := mkEntry 182 ia io (fRun (X n) n T Tryz.f182 ia io)
end F_glob_Sound
end Go.Proofs.YtcpkhpboemfglaaGreatDoor


namespace Go.Proofs.YtcpkhpboemfglaaGreatDoor
open Go Go.Va Go.Proofs
/- chartulary/chartularyref07.pieces -/
namespace F_ref07_pieces
abbrev ia : List Ai := [.dat .str]
abbrev io : List (Nat × Oi) := [(2, .val (.r 0 T_glob_piece)), (3, .dat .bool)]
abbrev R : Type := DOut ia io
noncomputable def X (n : Nat) : Ctx := ⟨⟨tab, [], 0, []⟩, 57, bnOf 0 ia⟩
abbrev g1 : List Si := [.dat 0 .str, .val 4 (.r 200400 T_glob_piece), .dat 5 (.int .i64)]
abbrev g2 : List Si := [.dat 0 .str, .val 4 (.r 200400 T_glob_piece), .dat 5 (.int .i64)]
abbrev g3 : List Si := [.val 4 (.r 200400 T_glob_piece)]
noncomputable def T : CT := (.s .o (.s .o (.s .o (.s (.s .o (.b (.l g1 (.s .o (.s .o (.r g2 .o)))))) (.r g3 .o)))))
noncomputable def J1 (n : Nat) (m : Nat) : ByteArray × (List (D_glob_piece)) × Int × Unit → Option R := jL (X n) n T (bodyOf Tryz.f184) (endK ia io) g1 [1, 1, 1, 0, 1, 0] [] m
noncomputable def J2 (n m1 : Nat) : ByteArray × (List (D_glob_piece)) × Int × Unit → Option R := jR (X n) n T (bodyOf Tryz.f184) (endK ia io) g2 [1, 1, 1, 0, 1, 0, 0, 1, 1] [m1]
noncomputable def J3 (n : Nat) : (List (D_glob_piece)) × Unit → Option R := jR (X n) n T (bodyOf Tryz.f184) (endK ia io) g3 [1, 1, 1, 1] []
noncomputable def f (n : Nat) (p : ByteArray) : Option R := fRun (X n) n T Tryz.f184 ia io (p, ())
theorem e0 (n : Nat) (p : ByteArray) : f n p =
  bIf ((hide (decide ((p.size : Int) > (200 : Int))))) (
    some (([] : List (D_glob_piece)), false, ())
    ) (
    J1 n n (p, ([] : List (D_glob_piece)), 0, ())
    ) := (hideF_eq _).trans (by kernel_rfl)
theorem e1 (n m : Nat) (p : ByteArray) (out : List (D_glob_piece)) (i : Int) : J1 n (m + 1) (p, out, i, ()) =
  bIf ((hide (decide (i < (p.size : Int))))) (
    gIf (0 ≤ i ∧ i < (p.size : Int)) (
      bIf ((hide ((bt p i) == (42 : Int)))) (
        gIf ((out.length + 1) * 16 ≤ 70368744177664) (
          J2 n m (p, (out ++ ([(2, (0, ()))] : List (D_glob_piece))), i, ())
          )
        ) (
        bIf ((hide ((bt p i) == (63 : Int)))) (
          gIf ((out.length + 1) * 16 ≤ 70368744177664) (
            J2 n m (p, (out ++ ([(1, (0, ()))] : List (D_glob_piece))), i, ())
            )
          ) (
          bIf ((hide ((bt p i) == (92 : Int)))) (
            bIf ((hide (i == (IntKind.i64.wrap ((p.size : Int) - (1 : Int)))))) (
              some (out, false, ())
              ) (
              gIf (0 ≤ (IntKind.i64.wrap (i + (1 : Int))) ∧ (IntKind.i64.wrap (i + (1 : Int))) < (p.size : Int)) (
                gIf ((out.length + 1) * 16 ≤ 70368744177664) (
                  J2 n m (p, (out ++ ([(0, ((bt p (IntKind.i64.wrap (i + (1 : Int)))), ()))] : List (D_glob_piece))), (IntKind.i64.wrap (i + (1 : Int))), ())
                  )
                )
              )
            ) (
            gIf (0 ≤ i ∧ i < (p.size : Int)) (
              gIf ((out.length + 1) * 16 ≤ 70368744177664) (
                J2 n m (p, (out ++ ([(0, ((bt p i), ()))] : List (D_glob_piece))), i, ())
                )
              )
            )
          )
        )
      )
    ) (
    J3 n (out, ())
    ) := (hideF_eq _).trans (by kernel_rfl)
theorem e2 (n m1 : Nat) (p : ByteArray) (out : List (D_glob_piece)) (i : Int) : J2 n m1 (p, out, i, ()) =
  J1 n m1 (p, out, (IntKind.i64.wrap (i + (1 : Int))), ()) := (hideF_eq _).trans (by kernel_rfl)
theorem e3 (n : Nat) (out : List (D_glob_piece)) : J3 n (out, ()) =
  some (out, true, ()) := (hideF_eq _).trans (by kernel_rfl)
theorem phi (n : Nat) : ∀ e ∈ (X n).c.Φ, EntryOk Tryz.prog e := allE_nil
theorem ok (n : Nat) : FnOk Tryz.prog 184 ia io (fRun (X n) n T Tryz.f184 ia io) := tree_ok mixed tabIs (phi n) Tryz.func184 (by kernel_rfl) rfl
noncomputable def en (n : Nat) : Entry := mkEntry 184 ia io (fRun (X n) n T Tryz.f184 ia io)
end F_ref07_pieces
end Go.Proofs.YtcpkhpboemfglaaGreatDoor


namespace Go.Proofs.YtcpkhpboemfglaaGreatDoor
open Go Go.Va Go.Proofs
/- chartulary/chartularyref07.Sound -/
namespace F_ref07_Sound
abbrev ia : List Ai := [.dat .str]
abbrev io : List (Nat × Oi) := [(2, .dat .bool)]
abbrev R : Type := DOut ia io
noncomputable def X (n : Nat) : Ctx := ⟨⟨tab, [F_ref07_pieces.en n], 0, []⟩, 11, bnOf 0 ia⟩
noncomputable def T : CT := .o
noncomputable def f (n : Nat) (p : ByteArray) : Option R := fRun (X n) n T Tryz.f133 ia io (p, ())
theorem e0 (n : Nat) (p : ByteArray) : f n p =
  bnd (F_ref07_pieces.f n p) fun u1 =>
  some (u1.2.1, ()) := (hideF_eq _).trans (by kernel_rfl)
theorem phi (n : Nat) : ∀ e ∈ (X n).c.Φ, EntryOk Tryz.prog e := allE_cons (mkEntry_ok (F_ref07_pieces.ok n)) (allE_nil)
theorem ok (n : Nat) : FnOk Tryz.prog 133 ia io (fRun (X n) n T Tryz.f133 ia io) := tree_ok mixed tabIs (phi n) Tryz.func133 (by kernel_rfl) rfl
noncomputable def en (n : Nat) : Entry := mkEntry 133 ia io (fRun (X n) n T Tryz.f133 ia io)
end F_ref07_Sound
end Go.Proofs.YtcpkhpboemfglaaGreatDoor


namespace Go.Proofs.YtcpkhpboemfglaaGreatDoor
open Go Go.Va Go.Proofs
/- chartulary/entry.Part -/
namespace F_entry_Part
abbrev ia : List Ai := [.dat T_api_Part]
abbrev io : List (Nat × Oi) := [(2, .dat .bool)]
abbrev R : Type := DOut ia io
noncomputable def X (n : Nat) : Ctx := ⟨⟨tab, [], 0, []⟩, 26, bnOf 0 ia⟩
noncomputable def T : CT := .o
noncomputable def f (n : Nat) (p : D_api_Part) : Option R := fRun (X n) n T Tryz.f130 ia io (p, ())
theorem e0 (n : Nat) (p : D_api_Part) : f n p =
  bIf ((hide (decide (p.1 ≥ (1 : Int))))) (
    bIf ((hide (decide (p.1 ≤ (10000 : Int))))) (
      bIf ((hide (decide (p.2.1 ≥ (0 : Int))))) (
        bIf ((hide (decide (p.2.1 ≤ (1024 : Int))))) (
          some ((hide (decide (p.2.2.1 > (0 : Int)))), ())
          ) (
          some (false, ())
          )
        ) (
        some (false, ())
        )
      ) (
      some (false, ())
      )
    ) (
    some (false, ())
    ) := (hideF_eq _).trans (by kernel_rfl)
theorem phi (n : Nat) : ∀ e ∈ (X n).c.Φ, EntryOk Tryz.prog e := allE_nil
theorem ok (n : Nat) : FnOk Tryz.prog 130 ia io (fRun (X n) n T Tryz.f130 ia io) := tree_ok mixed tabIs (phi n) Tryz.func130 (by kernel_rfl) rfl
noncomputable def en (n : Nat) : Entry := mkEntry 130 ia io (fRun (X n) n T Tryz.f130 ia io)
end F_entry_Part
end Go.Proofs.YtcpkhpboemfglaaGreatDoor


namespace Go.Proofs.YtcpkhpboemfglaaGreatDoor
open Go Go.Va Go.Proofs
/- chartulary/chartularyref14.Part -/
namespace F_ref14_Part
abbrev ia : List Ai := [.dat T_api_Part]
abbrev io : List (Nat × Oi) := [(2, .dat .bool)]
abbrev R : Type := DOut ia io
noncomputable def X (n : Nat) : Ctx := ⟨⟨tab, [], 0, []⟩, 26, bnOf 0 ia⟩
noncomputable def T : CT := .o
noncomputable def f (n : Nat) (p : D_api_Part) : Option R := fRun (X n) n T Tryz.f57 ia io (p, ())
theorem e0 (n : Nat) (p : D_api_Part) : f n p =
  bIf ((hide (decide (p.1 ≥ (1 : Int))))) (
    bIf ((hide (decide (p.1 ≤ (10000 : Int))))) (
      bIf ((hide (decide (p.2.1 ≥ (0 : Int))))) (
        bIf ((hide (decide (p.2.1 ≤ (1024 : Int))))) (
          some ((hide (decide (p.2.2.1 ≥ (1 : Int)))), ())
          ) (
          some (false, ())
          )
        ) (
        some (false, ())
        )
      ) (
      some (false, ())
      )
    ) (
    some (false, ())
    ) := (hideF_eq _).trans (by kernel_rfl)
theorem phi (n : Nat) : ∀ e ∈ (X n).c.Φ, EntryOk Tryz.prog e := allE_nil
theorem ok (n : Nat) : FnOk Tryz.prog 57 ia io (fRun (X n) n T Tryz.f57 ia io) := tree_ok mixed tabIs (phi n) Tryz.func57 (by kernel_rfl) rfl
noncomputable def en (n : Nat) : Entry := mkEntry 57 ia io (fRun (X n) n T Tryz.f57 ia io)
end F_ref14_Part
end Go.Proofs.YtcpkhpboemfglaaGreatDoor


namespace Go.Proofs.YtcpkhpboemfglaaGreatDoor
open Go Go.Va Go.Proofs
/- chartulary/entry.Rule -/
namespace F_entry_Rule
abbrev ia : List Ai := [.dat T_api_Rule]
abbrev io : List (Nat × Oi) := [(2, .dat .bool)]
abbrev R : Type := DOut ia io
noncomputable def X (n : Nat) : Ctx := ⟨⟨tab, [F_tags_Sound.en n, F_label_Clean.en n], 0, []⟩, 37, bnOf 0 ia⟩
noncomputable def T : CT := .o
noncomputable def f (n : Nat) (r : D_api_Rule) : Option R := fRun (X n) n T Tryz.f179 ia io (r, ())
theorem e0 (n : Nat) (r : D_api_Rule) : f n r =
  bIf ((hide (decide ((r.1.size : Int) ≤ (200 : Int))))) (
    bnd (F_label_Clean.f n r.1) fun u1 =>
    bIf (u1.1) (
      bnd (F_tags_Sound.f n r.2.1) fun u2 =>
      bIf (u2.1) (
        bIf ((hide (decide (r.2.2.1 ≥ (0 : Int))))) (
          bIf ((hide (decide (r.2.2.1 ≤ (36500 : Int))))) (
            bIf ((hide (decide (r.2.2.2.1 ≥ (0 : Int))))) (
              some ((hide (decide (r.2.2.2.1 ≤ (36500 : Int)))), ())
              ) (
              some (false, ())
              )
            ) (
            some (false, ())
            )
          ) (
          some (false, ())
          )
        ) (
        some (false, ())
        )
      ) (
      some (false, ())
      )
    ) (
    some (false, ())
    ) := (hideF_eq _).trans (by kernel_rfl)
theorem phi (n : Nat) : ∀ e ∈ (X n).c.Φ, EntryOk Tryz.prog e := allE_cons (mkEntry_ok (F_tags_Sound.ok n)) (allE_cons (mkEntry_ok (F_label_Clean.ok n)) (allE_nil))
theorem ok (n : Nat) : FnOk Tryz.prog 179 ia io (fRun (X n) n T Tryz.f179 ia io) := tree_ok mixed tabIs (phi n) Tryz.func179 (by kernel_rfl) rfl
noncomputable def en (n : Nat) : Entry := mkEntry 179 ia io (fRun (X n) n T Tryz.f179 ia io)
end F_entry_Rule
end Go.Proofs.YtcpkhpboemfglaaGreatDoor


namespace Go.Proofs.YtcpkhpboemfglaaGreatDoor
open Go Go.Va Go.Proofs
/- chartulary/entry.Rules$1 -/
namespace F_entry_Rules_1
abbrev ia : List Ai := [.dat T_api_Rule]
abbrev io : List (Nat × Oi) := [(2, .dat .bool)]
abbrev R : Type := DOut ia io
noncomputable def X (n : Nat) : Ctx := ⟨⟨tab, [F_entry_Rule.en n], 0, []⟩, 6, bnOf 0 ia⟩
noncomputable def T : CT := .o
noncomputable def f (n : Nat) (r : D_api_Rule) : Option R := fRun (X n) n T Tryz.f178 ia io (r, ())
theorem e0 (n : Nat) (r : D_api_Rule) : f n r =
  bnd (F_entry_Rule.f n r) fun u1 =>
  some ((!u1.1), ()) := (hideF_eq _).trans (by kernel_rfl)
theorem phi (n : Nat) : ∀ e ∈ (X n).c.Φ, EntryOk Tryz.prog e := allE_cons (mkEntry_ok (F_entry_Rule.ok n)) (allE_nil)
theorem ok (n : Nat) : FnOk Tryz.prog 178 ia io (fRun (X n) n T Tryz.f178 ia io) := tree_ok mixed tabIs (phi n) Tryz.func178 (by kernel_rfl) rfl
noncomputable def en (n : Nat) : Entry := mkEntry 178 ia io (fRun (X n) n T Tryz.f178 ia io)
end F_entry_Rules_1
end Go.Proofs.YtcpkhpboemfglaaGreatDoor


namespace Go.Proofs.YtcpkhpboemfglaaGreatDoor
open Go Go.Va Go.Proofs
/- slices.IndexFunc[[]chartulary/api.Rule,chartulary/api.Rule] -/
namespace F_slices_IndexFunc_Rule
abbrev ia : List Ai := [.dat (.slice T_api_Rule), .fn (.fn 178) []]
abbrev io : List (Nat × Oi) := [(4, .dat (.int .i64))]
abbrev R : Type := DOut ia io
noncomputable def X (n : Nat) : Ctx := ⟨⟨tab, [F_entry_Rules_1.en n], 0, []⟩, 19, bnOf 0 ia⟩
abbrev g1 : List Si := [.dat 0 (.slice T_api_Rule), .clo 1 (.fn 178) [], .dat 7 (.int .i64), .dat 8 (.int .i64)]
abbrev g2 : List Si := []
noncomputable def T : CT := (.s .o (.s (.s .o (.b (.l g1 .o))) (.r g2 .o)))
noncomputable def J1 (n : Nat) (m : Nat) : (List (D_api_Rule)) × Int × Int × Unit → Option R := jL (X n) n T (bodyOf Tryz.f212) (endK ia io) g1 [1, 0, 1, 0] [] m
noncomputable def J2 (n : Nat) : Unit → Option R := jR (X n) n T (bodyOf Tryz.f212) (endK ia io) g2 [1, 1] []
noncomputable def f (n : Nat) (s_ : List (D_api_Rule)) : Option R := fRun (X n) n T Tryz.f212 ia io (s_, ())
theorem e0 (n : Nat) (s_ : List (D_api_Rule)) : f n s_ =
  J1 n n (s_, ((s_.length : Nat) : Int), 0, ()) := (hideF_eq _).trans (by kernel_rfl)
theorem e1 (n m : Nat) (s_ : List (D_api_Rule)) (t7 : Int) (t8 : Int) : J1 n (m + 1) (s_, t7, t8, ()) =
  bIf ((hide (decide (t8 < t7)))) (
    gIf (0 ≤ t8 ∧ t8 < ((s_.length : Nat) : Int)) (
      bnd (F_entry_Rules_1.f n (List.getD s_ t8.toNat (Va.dflt T_api_Rule))) fun u1 =>
      bIf (u1.1) (
        some (t8, ())
        ) (
        J1 n m (s_, t7, (IntKind.i64.wrap (t8 + (1 : Int))), ())
        )
      )
    ) (
    J2 n (())
    ) := (hideF_eq _).trans (by kernel_rfl)
theorem e2 (n : Nat) : J2 n (()) =
  some ((-1), ()) := (hideF_eq _).trans (by kernel_rfl)
theorem phi (n : Nat) : ∀ e ∈ (X n).c.Φ, EntryOk Tryz.prog e := allE_cons (mkEntry_ok (F_entry_Rules_1.ok n)) (allE_nil)
theorem ok (n : Nat) : FnOk Tryz.prog 212 ia io (fRun (X n) n T Tryz.f212 ia io) := tree_ok mixed tabIs (phi n) Tryz.func212 (by kernel_rfl) rfl
noncomputable def en (n : Nat) : Entry := mkEntry 212 ia io (fRun (X n) n T Tryz.f212 ia io)
end F_slices_IndexFunc_Rule
end Go.Proofs.YtcpkhpboemfglaaGreatDoor


namespace Go.Proofs.YtcpkhpboemfglaaGreatDoor
open Go Go.Va Go.Proofs
/- slices.ContainsFunc[[]chartulary/api.Rule,chartulary/api.Rule] -/
namespace F_slices_ContainsFunc_Rule
abbrev ia : List Ai := [.dat (.slice T_api_Rule), .fn (.fn 178) []]
abbrev io : List (Nat × Oi) := [(4, .dat .bool)]
abbrev R : Type := DOut ia io
noncomputable def X (n : Nat) : Ctx := ⟨⟨tab, [F_slices_IndexFunc_Rule.en n], 0, []⟩, 9, bnOf 0 ia⟩
noncomputable def T : CT := .o
noncomputable def f (n : Nat) (s_ : List (D_api_Rule)) : Option R := fRun (X n) n T Tryz.f177 ia io (s_, ())
theorem e0 (n : Nat) (s_ : List (D_api_Rule)) : f n s_ =
  bnd (F_slices_IndexFunc_Rule.f n s_) fun u1 =>
  some ((hide (decide (u1.1 ≥ (0 : Int)))), ()) := (hideF_eq _).trans (by kernel_rfl)
theorem phi (n : Nat) : ∀ e ∈ (X n).c.Φ, EntryOk Tryz.prog e := allE_cons (mkEntry_ok (F_slices_IndexFunc_Rule.ok n)) (allE_nil)
theorem ok (n : Nat) : FnOk Tryz.prog 177 ia io (fRun (X n) n T Tryz.f177 ia io) := tree_ok mixed tabIs (phi n) Tryz.func177 (by kernel_rfl) rfl
noncomputable def en (n : Nat) : Entry := mkEntry 177 ia io (fRun (X n) n T Tryz.f177 ia io)
end F_slices_ContainsFunc_Rule
end Go.Proofs.YtcpkhpboemfglaaGreatDoor


namespace Go.Proofs.YtcpkhpboemfglaaGreatDoor
open Go Go.Va Go.Proofs
/- chartulary/entry.Rules -/
namespace F_entry_Rules
abbrev ia : List Ai := [.dat (.slice T_api_Rule)]
abbrev io : List (Nat × Oi) := [(2, .dat .bool)]
abbrev R : Type := DOut ia io
noncomputable def X (n : Nat) : Ctx := ⟨⟨tab, [F_slices_ContainsFunc_Rule.en n], 0, []⟩, 11, bnOf 0 ia⟩
noncomputable def T : CT := .o
noncomputable def f (n : Nat) (list : List (D_api_Rule)) : Option R := fRun (X n) n T Tryz.f125 ia io (list, ())
theorem e0 (n : Nat) (list : List (D_api_Rule)) : f n list =
  bIf ((hide (decide (((list.length : Nat) : Int) ≤ (8 : Int))))) (
    bnd (F_slices_ContainsFunc_Rule.f n list) fun u1 =>
    some ((!u1.1), ())
    ) (
    some (false, ())
    ) := (hideF_eq _).trans (by kernel_rfl)
theorem phi (n : Nat) : ∀ e ∈ (X n).c.Φ, EntryOk Tryz.prog e := allE_cons (mkEntry_ok (F_slices_ContainsFunc_Rule.ok n)) (allE_nil)
theorem ok (n : Nat) : FnOk Tryz.prog 125 ia io (fRun (X n) n T Tryz.f125 ia io) := tree_ok mixed tabIs (phi n) Tryz.func125 (by kernel_rfl) rfl
noncomputable def en (n : Nat) : Entry := mkEntry 125 ia io (fRun (X n) n T Tryz.f125 ia io)
end F_entry_Rules
end Go.Proofs.YtcpkhpboemfglaaGreatDoor


namespace Go.Proofs.YtcpkhpboemfglaaGreatDoor
open Go Go.Va Go.Proofs
/- chartulary/chartularyref14.Rules -/
namespace F_ref14_Rules
abbrev ia : List Ai := [.dat (.slice T_api_Rule)]
abbrev io : List (Nat × Oi) := [(2, .dat .bool)]
abbrev R : Type := DOut ia io
noncomputable def X (n : Nat) : Ctx := ⟨⟨tab, [F_ref08_Sound.en n, F_ref06_Clean.en n], 0, []⟩, 54, bnOf 0 ia⟩
abbrev g1 : List Si := [.dat 0 (.slice T_api_Rule), .dat 3 (.int .i64)]
abbrev g2 : List Si := [.dat 0 (.slice T_api_Rule), .dat 3 (.int .i64)]
abbrev g3 : List Si := []
noncomputable def T : CT := (.s .o (.s .o (.s (.s .o (.b (.l g1 (.s .o (.s .o (.r g2 .o)))))) (.r g3 .o))))
noncomputable def J1 (n : Nat) (m : Nat) : (List (D_api_Rule)) × Int × Unit → Option R := jL (X n) n T (bodyOf Tryz.f55) (endK ia io) g1 [1, 1, 0, 1, 0] [] m
noncomputable def J2 (n m1 : Nat) : (List (D_api_Rule)) × Int × Unit → Option R := jR (X n) n T (bodyOf Tryz.f55) (endK ia io) g2 [1, 1, 0, 1, 0, 0, 1, 1] [m1]
noncomputable def J3 (n : Nat) : Unit → Option R := jR (X n) n T (bodyOf Tryz.f55) (endK ia io) g3 [1, 1, 1] []
noncomputable def f (n : Nat) (l : List (D_api_Rule)) : Option R := fRun (X n) n T Tryz.f55 ia io (l, ())
theorem e0 (n : Nat) (l : List (D_api_Rule)) : f n l =
  bIf ((hide (decide (((l.length : Nat) : Int) > (8 : Int))))) (
    some (false, ())
    ) (
    J1 n n (l, 0, ())
    ) := (hideF_eq _).trans (by kernel_rfl)
theorem e1 (n m : Nat) (l : List (D_api_Rule)) (i : Int) : J1 n (m + 1) (l, i, ()) =
  bIf ((hide (decide (i < ((l.length : Nat) : Int))))) (
    gIf (0 ≤ i ∧ i < ((l.length : Nat) : Int)) (
      bIf ((hide (decide ((((List.getD l i.toNat (Va.dflt T_api_Rule)).1).size : Int) > (200 : Int))))) (
        some (false, ())
        ) (
        bnd (F_ref06_Clean.f n ((List.getD l i.toNat (Va.dflt T_api_Rule)).1)) fun u1 =>
        bIf ((!u1.1)) (
          some (false, ())
          ) (
          bnd (F_ref08_Sound.f n (((List.getD l i.toNat (Va.dflt T_api_Rule)).2).1)) fun u2 =>
          bIf ((!u2.1)) (
            some (false, ())
            ) (
            bIf ((hide (decide (((((List.getD l i.toNat (Va.dflt T_api_Rule)).2).2).1) < (0 : Int))))) (
              some (false, ())
              ) (
              bIf ((hide (decide (((((List.getD l i.toNat (Va.dflt T_api_Rule)).2).2).1) > (36500 : Int))))) (
                some (false, ())
                ) (
                bIf ((hide (decide ((((((List.getD l i.toNat (Va.dflt T_api_Rule)).2).2).2).1) < (0 : Int))))) (
                  some (false, ())
                  ) (
                  bIf ((hide (decide ((((((List.getD l i.toNat (Va.dflt T_api_Rule)).2).2).2).1) > (36500 : Int))))) (
                    some (false, ())
                    ) (
                    J2 n m (l, i, ())
                    )
                  )
                )
              )
            )
          )
        )
      )
    ) (
    J3 n (())
    ) := (hideF_eq _).trans (by kernel_rfl)
theorem e2 (n m1 : Nat) (l : List (D_api_Rule)) (i : Int) : J2 n m1 (l, i, ()) =
  J1 n m1 (l, (IntKind.i64.wrap (i + (1 : Int))), ()) := (hideF_eq _).trans (by kernel_rfl)
theorem e3 (n : Nat) : J3 n (()) =
  some (true, ()) := (hideF_eq _).trans (by kernel_rfl)
theorem phi (n : Nat) : ∀ e ∈ (X n).c.Φ, EntryOk Tryz.prog e := allE_cons (mkEntry_ok (F_ref08_Sound.ok n)) (allE_cons (mkEntry_ok (F_ref06_Clean.ok n)) (allE_nil))
theorem ok (n : Nat) : FnOk Tryz.prog 55 ia io (fRun (X n) n T Tryz.f55 ia io) := tree_ok mixed tabIs (phi n) Tryz.func55 (by kernel_rfl) rfl
noncomputable def en (n : Nat) : Entry := mkEntry 55 ia io (fRun (X n) n T Tryz.f55 ia io)
end F_ref14_Rules
end Go.Proofs.YtcpkhpboemfglaaGreatDoor


namespace Go.Proofs.YtcpkhpboemfglaaGreatDoor
open Go Go.Va Go.Proofs
/- chartulary/entry.Grants$1 -/
namespace F_entry_Grants_1
abbrev ia : List Ai := [.dat T_api_Grant]
abbrev io : List (Nat × Oi) := [(2, .dat .bool)]
abbrev R : Type := DOut ia io
noncomputable def X (n : Nat) : Ctx := ⟨⟨tab, [F_glob_Sound.en n], 0, []⟩, 19, bnOf 0 ia⟩
noncomputable def T : CT := .o
noncomputable def f (n : Nat) (g : D_api_Grant) : Option R := fRun (X n) n T Tryz.f181 ia io (g, ())
theorem e0 (n : Nat) (g : D_api_Grant) : f n g =
  bnd (F_glob_Sound.f n g.2.1) fun u1 =>
  bIf ((!u1.1)) (
    some (true, ())
    ) (
    bnd (F_glob_Sound.f n g.2.2.1) fun u2 =>
    bIf ((!u2.1)) (
      some (true, ())
      ) (
      bnd (F_glob_Sound.f n g.2.2.2.1) fun u3 =>
      some ((!u3.1), ())
      )
    ) := (hideF_eq _).trans (by kernel_rfl)
theorem phi (n : Nat) : ∀ e ∈ (X n).c.Φ, EntryOk Tryz.prog e := allE_cons (mkEntry_ok (F_glob_Sound.ok n)) (allE_nil)
theorem ok (n : Nat) : FnOk Tryz.prog 181 ia io (fRun (X n) n T Tryz.f181 ia io) := tree_ok mixed tabIs (phi n) Tryz.func181 (by kernel_rfl) rfl
noncomputable def en (n : Nat) : Entry := mkEntry 181 ia io (fRun (X n) n T Tryz.f181 ia io)
end F_entry_Grants_1
end Go.Proofs.YtcpkhpboemfglaaGreatDoor


namespace Go.Proofs.YtcpkhpboemfglaaGreatDoor
open Go Go.Va Go.Proofs
/- slices.IndexFunc[[]chartulary/api.Grant,chartulary/api.Grant] -/
namespace F_slices_IndexFunc_Grant
abbrev ia : List Ai := [.dat (.slice T_api_Grant), .fn (.fn 181) []]
abbrev io : List (Nat × Oi) := [(4, .dat (.int .i64))]
abbrev R : Type := DOut ia io
noncomputable def X (n : Nat) : Ctx := ⟨⟨tab, [F_entry_Grants_1.en n], 0, []⟩, 19, bnOf 0 ia⟩
abbrev g1 : List Si := [.dat 0 (.slice T_api_Grant), .clo 1 (.fn 181) [], .dat 7 (.int .i64), .dat 8 (.int .i64)]
abbrev g2 : List Si := []
noncomputable def T : CT := (.s .o (.s (.s .o (.b (.l g1 .o))) (.r g2 .o)))
noncomputable def J1 (n : Nat) (m : Nat) : (List (D_api_Grant)) × Int × Int × Unit → Option R := jL (X n) n T (bodyOf Tryz.f213) (endK ia io) g1 [1, 0, 1, 0] [] m
noncomputable def J2 (n : Nat) : Unit → Option R := jR (X n) n T (bodyOf Tryz.f213) (endK ia io) g2 [1, 1] []
noncomputable def f (n : Nat) (s_ : List (D_api_Grant)) : Option R := fRun (X n) n T Tryz.f213 ia io (s_, ())
theorem e0 (n : Nat) (s_ : List (D_api_Grant)) : f n s_ =
  J1 n n (s_, ((s_.length : Nat) : Int), 0, ()) := (hideF_eq _).trans (by kernel_rfl)
theorem e1 (n m : Nat) (s_ : List (D_api_Grant)) (t7 : Int) (t8 : Int) : J1 n (m + 1) (s_, t7, t8, ()) =
  bIf ((hide (decide (t8 < t7)))) (
    gIf (0 ≤ t8 ∧ t8 < ((s_.length : Nat) : Int)) (
      bnd (F_entry_Grants_1.f n (List.getD s_ t8.toNat (Va.dflt T_api_Grant))) fun u1 =>
      bIf (u1.1) (
        some (t8, ())
        ) (
        J1 n m (s_, t7, (IntKind.i64.wrap (t8 + (1 : Int))), ())
        )
      )
    ) (
    J2 n (())
    ) := (hideF_eq _).trans (by kernel_rfl)
theorem e2 (n : Nat) : J2 n (()) =
  some ((-1), ()) := (hideF_eq _).trans (by kernel_rfl)
theorem phi (n : Nat) : ∀ e ∈ (X n).c.Φ, EntryOk Tryz.prog e := allE_cons (mkEntry_ok (F_entry_Grants_1.ok n)) (allE_nil)
theorem ok (n : Nat) : FnOk Tryz.prog 213 ia io (fRun (X n) n T Tryz.f213 ia io) := tree_ok mixed tabIs (phi n) Tryz.func213 (by kernel_rfl) rfl
noncomputable def en (n : Nat) : Entry := mkEntry 213 ia io (fRun (X n) n T Tryz.f213 ia io)
end F_slices_IndexFunc_Grant
end Go.Proofs.YtcpkhpboemfglaaGreatDoor


namespace Go.Proofs.YtcpkhpboemfglaaGreatDoor
open Go Go.Va Go.Proofs
/- slices.ContainsFunc[[]chartulary/api.Grant,chartulary/api.Grant] -/
namespace F_slices_ContainsFunc_Grant
abbrev ia : List Ai := [.dat (.slice T_api_Grant), .fn (.fn 181) []]
abbrev io : List (Nat × Oi) := [(4, .dat .bool)]
abbrev R : Type := DOut ia io
noncomputable def X (n : Nat) : Ctx := ⟨⟨tab, [F_slices_IndexFunc_Grant.en n], 0, []⟩, 9, bnOf 0 ia⟩
noncomputable def T : CT := .o
noncomputable def f (n : Nat) (s_ : List (D_api_Grant)) : Option R := fRun (X n) n T Tryz.f180 ia io (s_, ())
theorem e0 (n : Nat) (s_ : List (D_api_Grant)) : f n s_ =
  bnd (F_slices_IndexFunc_Grant.f n s_) fun u1 =>
  some ((hide (decide (u1.1 ≥ (0 : Int)))), ()) := (hideF_eq _).trans (by kernel_rfl)
theorem phi (n : Nat) : ∀ e ∈ (X n).c.Φ, EntryOk Tryz.prog e := allE_cons (mkEntry_ok (F_slices_IndexFunc_Grant.ok n)) (allE_nil)
theorem ok (n : Nat) : FnOk Tryz.prog 180 ia io (fRun (X n) n T Tryz.f180 ia io) := tree_ok mixed tabIs (phi n) Tryz.func180 (by kernel_rfl) rfl
noncomputable def en (n : Nat) : Entry := mkEntry 180 ia io (fRun (X n) n T Tryz.f180 ia io)
end F_slices_ContainsFunc_Grant
end Go.Proofs.YtcpkhpboemfglaaGreatDoor


namespace Go.Proofs.YtcpkhpboemfglaaGreatDoor
open Go Go.Va Go.Proofs
/- chartulary/entry.Grants -/
namespace F_entry_Grants
abbrev ia : List Ai := [.dat (.slice T_api_Grant)]
abbrev io : List (Nat × Oi) := [(2, .dat .bool)]
abbrev R : Type := DOut ia io
noncomputable def X (n : Nat) : Ctx := ⟨⟨tab, [F_slices_ContainsFunc_Grant.en n], 0, []⟩, 11, bnOf 0 ia⟩
noncomputable def T : CT := .o
noncomputable def f (n : Nat) (list : List (D_api_Grant)) : Option R := fRun (X n) n T Tryz.f126 ia io (list, ())
theorem e0 (n : Nat) (list : List (D_api_Grant)) : f n list =
  bIf ((hide (decide (((list.length : Nat) : Int) ≤ (8 : Int))))) (
    bnd (F_slices_ContainsFunc_Grant.f n list) fun u1 =>
    some ((!u1.1), ())
    ) (
    some (false, ())
    ) := (hideF_eq _).trans (by kernel_rfl)
theorem phi (n : Nat) : ∀ e ∈ (X n).c.Φ, EntryOk Tryz.prog e := allE_cons (mkEntry_ok (F_slices_ContainsFunc_Grant.ok n)) (allE_nil)
theorem ok (n : Nat) : FnOk Tryz.prog 126 ia io (fRun (X n) n T Tryz.f126 ia io) := tree_ok mixed tabIs (phi n) Tryz.func126 (by kernel_rfl) rfl
noncomputable def en (n : Nat) : Entry := mkEntry 126 ia io (fRun (X n) n T Tryz.f126 ia io)
end F_entry_Grants
end Go.Proofs.YtcpkhpboemfglaaGreatDoor


namespace Go.Proofs.YtcpkhpboemfglaaGreatDoor
open Go Go.Va Go.Proofs
/- chartulary/chartularyref14.Grants -/
namespace F_ref14_Grants
abbrev ia : List Ai := [.dat (.slice T_api_Grant)]
abbrev io : List (Nat × Oi) := [(2, .dat .bool)]
abbrev R : Type := DOut ia io
noncomputable def X (n : Nat) : Ctx := ⟨⟨tab, [F_ref07_Sound.en n], 0, []⟩, 38, bnOf 0 ia⟩
abbrev g1 : List Si := [.dat 0 (.slice T_api_Grant), .dat 3 (.int .i64)]
abbrev g2 : List Si := [.dat 0 (.slice T_api_Grant), .dat 3 (.int .i64)]
abbrev g3 : List Si := []
noncomputable def T : CT := (.s .o (.s .o (.s (.s .o (.b (.l g1 (.s .o (.s .o (.r g2 .o)))))) (.r g3 .o))))
noncomputable def J1 (n : Nat) (m : Nat) : (List (D_api_Grant)) × Int × Unit → Option R := jL (X n) n T (bodyOf Tryz.f56) (endK ia io) g1 [1, 1, 0, 1, 0] [] m
noncomputable def J2 (n m1 : Nat) : (List (D_api_Grant)) × Int × Unit → Option R := jR (X n) n T (bodyOf Tryz.f56) (endK ia io) g2 [1, 1, 0, 1, 0, 0, 1, 1] [m1]
noncomputable def J3 (n : Nat) : Unit → Option R := jR (X n) n T (bodyOf Tryz.f56) (endK ia io) g3 [1, 1, 1] []
noncomputable def f (n : Nat) (l : List (D_api_Grant)) : Option R := fRun (X n) n T Tryz.f56 ia io (l, ())
theorem e0 (n : Nat) (l : List (D_api_Grant)) : f n l =
  bIf ((hide (decide (((l.length : Nat) : Int) > (8 : Int))))) (
    some (false, ())
    ) (
    J1 n n (l, 0, ())
    ) := (hideF_eq _).trans (by kernel_rfl)
theorem e1 (n m : Nat) (l : List (D_api_Grant)) (i : Int) : J1 n (m + 1) (l, i, ()) =
  bIf ((hide (decide (i < ((l.length : Nat) : Int))))) (
    gIf (0 ≤ i ∧ i < ((l.length : Nat) : Int)) (
      bnd (F_ref07_Sound.f n (((List.getD l i.toNat (Va.dflt T_api_Grant)).2).1)) fun u1 =>
      bIf ((!u1.1)) (
        some (false, ())
        ) (
        gIf (0 ≤ i ∧ i < ((l.length : Nat) : Int)) (
          bnd (F_ref07_Sound.f n ((((List.getD l i.toNat (Va.dflt T_api_Grant)).2).2).1)) fun u2 =>
          bIf ((!u2.1)) (
            some (false, ())
            ) (
            gIf (0 ≤ i ∧ i < ((l.length : Nat) : Int)) (
              bnd (F_ref07_Sound.f n (((((List.getD l i.toNat (Va.dflt T_api_Grant)).2).2).2).1)) fun u3 =>
              bIf ((!u3.1)) (
                some (false, ())
                ) (
                J2 n m (l, i, ())
                )
              )
            )
          )
        )
      )
    ) (
    J3 n (())
    ) := (hideF_eq _).trans (by kernel_rfl)
theorem e2 (n m1 : Nat) (l : List (D_api_Grant)) (i : Int) : J2 n m1 (l, i, ()) =
  J1 n m1 (l, (IntKind.i64.wrap (i + (1 : Int))), ()) := (hideF_eq _).trans (by kernel_rfl)
theorem e3 (n : Nat) : J3 n (()) =
  some (true, ()) := (hideF_eq _).trans (by kernel_rfl)
theorem phi (n : Nat) : ∀ e ∈ (X n).c.Φ, EntryOk Tryz.prog e := allE_cons (mkEntry_ok (F_ref07_Sound.ok n)) (allE_nil)
theorem ok (n : Nat) : FnOk Tryz.prog 56 ia io (fRun (X n) n T Tryz.f56 ia io) := tree_ok mixed tabIs (phi n) Tryz.func56 (by kernel_rfl) rfl
noncomputable def en (n : Nat) : Entry := mkEntry 56 ia io (fRun (X n) n T Tryz.f56 ia io)
end F_ref14_Grants
end Go.Proofs.YtcpkhpboemfglaaGreatDoor


namespace Go.Proofs.YtcpkhpboemfglaaGreatDoor
open Go Go.Va Go.Proofs
/- chartulary/label.address -/
namespace F_label_address
abbrev ia : List Ai := [.dat .str]
abbrev io : List (Nat × Oi) := [(2, .dat .bool)]
abbrev R : Type := DOut ia io
noncomputable def X (n : Nat) : Ctx := ⟨⟨tab, [F_strings_Split.en, F_strings_Trim.en], 0, []⟩, 30, bnOf 0 ia⟩
abbrev g1 : List Si := [.val 11 (.r 201100 .str), .dat 12 (.int .i64), .dat 13 (.int .i64)]
abbrev g2 : List Si := []
noncomputable def T : CT := (.s .o (.s .o (.s .o (.s (.s .o (.b (.l g1 .o))) (.r g2 .o)))))
noncomputable def J1 (n : Nat) (m : Nat) : (List (ByteArray)) × Int × Int × Unit → Option R := jL (X n) n T (bodyOf Tryz.f120) (endK ia io) g1 [1, 1, 1, 0, 1, 0] [] m
noncomputable def J2 (n : Nat) : Unit → Option R := jR (X n) n T (bodyOf Tryz.f120) (endK ia io) g2 [1, 1, 1, 1] []
noncomputable def f (n : Nat) (s_ : ByteArray) : Option R := fRun (X n) n T Tryz.f120 ia io (s_, ())
theorem e0 (n : Nat) (s_ : ByteArray) : f n s_ =
  bnd (F_strings_Split.f s_ (⟨#[46]⟩ : ByteArray)) fun u1 =>
  bIf ((hide (((u1.1.length : Nat) : Int) != (4 : Int)))) (
    some (false, ())
    ) (
    J1 n n (u1.1, ((u1.1.length : Nat) : Int), 0, ())
    ) := (hideF_eq _).trans (by kernel_rfl)
theorem e1 (n m : Nat) (t11 : List (ByteArray)) (t12 : Int) (t13 : Int) : J1 n (m + 1) (t11, t12, t13, ()) =
  bIf ((hide (decide (t13 < t12)))) (
    gIf (0 ≤ t13 ∧ t13 < ((t11.length : Nat) : Int)) (
      bIf ((hide (eqS (List.getD t11 (0 + t13.toNat) (⟨#[]⟩ : ByteArray)) (⟨#[]⟩ : ByteArray)))) (
        some (false, ())
        ) (
        bIf ((hide (decide (((List.getD t11 (0 + t13.toNat) (⟨#[]⟩ : ByteArray)).size : Int) > (3 : Int))))) (
          some (false, ())
          ) (
          bnd (F_strings_Trim.f (List.getD t11 (0 + t13.toNat) (⟨#[]⟩ : ByteArray)) (⟨#[48, 49, 50, 51, 52, 53, 54, 55, 56, 57]⟩ : ByteArray)) fun u1 =>
          bIf ((hide (!eqS u1.1 (⟨#[]⟩ : ByteArray)))) (
            some (false, ())
            ) (
            J1 n m (t11, t12, (IntKind.i64.wrap (t13 + (1 : Int))), ())
            )
          )
        )
      )
    ) (
    J2 n (())
    ) := (hideF_eq _).trans (by kernel_rfl)
theorem e2 (n : Nat) : J2 n (()) =
  some (true, ()) := (hideF_eq _).trans (by kernel_rfl)
theorem phi (n : Nat) : ∀ e ∈ (X n).c.Φ, EntryOk Tryz.prog e := allE_cons (mkEntry_ok (F_strings_Split.ok)) (allE_cons (mkEntry_ok (F_strings_Trim.ok)) (allE_nil))
theorem ok (n : Nat) : FnOk Tryz.prog 120 ia io (fRun (X n) n T Tryz.f120 ia io) := tree_ok mixed tabIs (phi n) Tryz.func120 (by kernel_rfl) rfl
noncomputable def en (n : Nat) : Entry := mkEntry 120 ia io (fRun (X n) n T Tryz.f120 ia io)
end F_label_address
end Go.Proofs.YtcpkhpboemfglaaGreatDoor


namespace Go.Proofs.YtcpkhpboemfglaaGreatDoor
open Go Go.Va Go.Proofs
/- chartulary/label.among -/
namespace F_label_among
abbrev ia : List Ai := [.dat .str, .dat (.int .u8)]
abbrev io : List (Nat × Oi) := [(4, .dat .bool)]
abbrev R : Type := DOut ia io
noncomputable def X (n : Nat) : Ctx := ⟨⟨tab, [F_strings_IndexByte.en], 0, []⟩, 9, bnOf 0 ia⟩
noncomputable def T : CT := .o
noncomputable def f (n : Nat) (some_ : ByteArray) (b : Int) : Option R := fRun (X n) n T Tryz.f121 ia io (some_, b, ())
theorem e0 (n : Nat) (some_ : ByteArray) (b : Int) : f n some_ b =
  bnd (F_strings_IndexByte.f some_ b) fun u1 =>
  some ((hide (decide (u1.1 ≥ (0 : Int)))), ()) := (hideF_eq _).trans (by kernel_rfl)
theorem phi (n : Nat) : ∀ e ∈ (X n).c.Φ, EntryOk Tryz.prog e := allE_cons (mkEntry_ok (F_strings_IndexByte.ok)) (allE_nil)
theorem ok (n : Nat) : FnOk Tryz.prog 121 ia io (fRun (X n) n T Tryz.f121 ia io) := tree_ok mixed tabIs (phi n) Tryz.func121 (by kernel_rfl) rfl
noncomputable def en (n : Nat) : Entry := mkEntry 121 ia io (fRun (X n) n T Tryz.f121 ia io)
end F_label_among
end Go.Proofs.YtcpkhpboemfglaaGreatDoor


namespace Go.Proofs.YtcpkhpboemfglaaGreatDoor
open Go Go.Va Go.Proofs
/- chartulary/label.Bucket -/
namespace F_label_Bucket
abbrev ia : List Ai := [.dat .str]
abbrev io : List (Nat × Oi) := [(2, .dat .bool)]
abbrev R : Type := DOut ia io
noncomputable def X (n : Nat) : Ctx := ⟨⟨tab, [F_label_address.en n, F_label_among.en n], 0, []⟩, 68, bnOf 0 ia⟩
abbrev g1 : List Si := [.dat 0 .str]
abbrev g2 : List Si := [.dat 0 .str, .dat 18 (.int .i64), .dat 19 (.int .i64)]
abbrev g3 : List Si := [.dat 0 .str, .dat 3 (.int .i64), .dat 18 (.int .i64), .dat 19 (.int .i64)]
abbrev g4 : List Si := []
noncomputable def T : CT := (.s .o (.s .o (.r g1 (.s (.s .o (.b (.l g2 (.s .o (.s .o (.s (.b (.s .o (.s .o (.s .o (.r g3 .o))))) .o)))))) (.r g4 .o)))))
noncomputable def J1 (n : Nat) : ByteArray × Unit → Option R := jR (X n) n T (bodyOf Tryz.f43) (endK ia io) g1 [1, 1] []
noncomputable def J2 (n : Nat) (m : Nat) : ByteArray × Int × Int × Unit → Option R := jL (X n) n T (bodyOf Tryz.f43) (endK ia io) g2 [1, 1, 0, 1, 0] [] m
noncomputable def J3 (n m2 : Nat) : ByteArray × Int × Int × Int × Unit → Option R := jR (X n) n T (bodyOf Tryz.f43) (endK ia io) g3 [1, 1, 0, 1, 0, 0, 1, 1, 0, 0, 1, 1, 1] [m2]
noncomputable def J4 (n : Nat) : Unit → Option R := jR (X n) n T (bodyOf Tryz.f43) (endK ia io) g4 [1, 1, 1] []
noncomputable def f (n : Nat) (s_ : ByteArray) : Option R := fRun (X n) n T Tryz.f43 ia io (s_, ())
theorem e0 (n : Nat) (s_ : ByteArray) : f n s_ =
  bIf ((hide (decide ((s_.size : Int) < (3 : Int))))) (
    some (false, ())
    ) (
    bIf ((hide (decide ((s_.size : Int) > (63 : Int))))) (
      some (false, ())
      ) (
      bnd (F_label_address.f n s_) fun u1 =>
      bIf (u1.1) (
        some (false, ())
        ) (
        J1 n (s_, ())
        )
      )
    ) := (hideF_eq _).trans (by kernel_rfl)
theorem e1 (n : Nat) (s_ : ByteArray) : J1 n (s_, ()) =
  J2 n n (s_, (s_.size : Int), 0, ()) := (hideF_eq _).trans (by kernel_rfl)
theorem e2 (n m : Nat) (s_ : ByteArray) (t18 : Int) (t19 : Int) : J2 n (m + 1) (s_, t18, t19, ()) =
  bIf ((hide (decide (t19 < t18)))) (
    gIf (0 ≤ t19 ∧ t19 < (s_.size : Int)) (
      bnd (F_label_among.f n (⟨#[97, 98, 99, 100, 101, 102, 103, 104, 105, 106, 107, 108, 109, 110, 111, 112, 113, 114, 115, 116, 117, 118, 119, 120, 121, 122, 48, 49, 50, 51, 52, 53, 54, 55, 56, 57]⟩ : ByteArray) (bt s_ t19)) fun u1 =>
      bIf (u1.1) (
        J2 n m (s_, t18, (IntKind.i64.wrap (t19 + (1 : Int))), ())
        ) (
        gIf (0 ≤ t19 ∧ t19 < (s_.size : Int)) (
          bIf ((hide ((bt s_ t19) != (45 : Int)))) (
            gIf (0 ≤ t19 ∧ t19 < (s_.size : Int)) (
              bIf ((hide ((bt s_ t19) != (46 : Int)))) (
                some (false, ())
                ) (
                bIf ((hide (t19 == (0 : Int)))) (
                  some (false, ())
                  ) (
                  bIf ((hide (t19 == (IntKind.i64.wrap ((s_.size : Int) - (1 : Int)))))) (
                    some (false, ())
                    ) (
                    J3 n m (s_, t19, t18, t19, ())
                    )
                  )
                )
              )
            ) (
            bIf ((hide (t19 == (0 : Int)))) (
              some (false, ())
              ) (
              bIf ((hide (t19 == (IntKind.i64.wrap ((s_.size : Int) - (1 : Int)))))) (
                some (false, ())
                ) (
                J3 n m (s_, t19, t18, t19, ())
                )
              )
            )
          )
        )
      )
    ) (
    J4 n (())
    ) := (hideF_eq _).trans (by kernel_rfl)
theorem e3 (n m2 : Nat) (s_ : ByteArray) (i : Int) (t18 : Int) (t19 : Int) : J3 n m2 (s_, i, t18, t19, ()) =
  gIf (0 ≤ (IntKind.i64.wrap (i + (1 : Int))) ∧ (IntKind.i64.wrap (i + (1 : Int))) < (s_.size : Int)) (
    bIf ((hide ((bt s_ (IntKind.i64.wrap (i + (1 : Int)))) == (46 : Int)))) (
      gIf (0 ≤ i ∧ i < (s_.size : Int)) (
        bIf ((hide ((bt s_ i) == (46 : Int)))) (
          some (false, ())
          ) (
          bIf ((hide ((bt s_ (IntKind.i64.wrap (i + (1 : Int)))) == (46 : Int)))) (
            some (false, ())
            ) (
            J2 n m2 (s_, t18, (IntKind.i64.wrap (t19 + (1 : Int))), ())
            )
          )
        )
      ) (
      bIf ((hide ((bt s_ (IntKind.i64.wrap (i + (1 : Int)))) == (45 : Int)))) (
        gIf (0 ≤ i ∧ i < (s_.size : Int)) (
          bIf ((hide ((bt s_ i) == (46 : Int)))) (
            some (false, ())
            ) (
            bIf ((hide ((bt s_ (IntKind.i64.wrap (i + (1 : Int)))) == (46 : Int)))) (
              some (false, ())
              ) (
              J2 n m2 (s_, t18, (IntKind.i64.wrap (t19 + (1 : Int))), ())
              )
            )
          )
        ) (
        J2 n m2 (s_, t18, (IntKind.i64.wrap (t19 + (1 : Int))), ())
        )
      )
    ) := (hideF_eq _).trans (by kernel_rfl)
theorem e4 (n : Nat) : J4 n (()) =
  some (true, ()) := (hideF_eq _).trans (by kernel_rfl)
theorem phi (n : Nat) : ∀ e ∈ (X n).c.Φ, EntryOk Tryz.prog e := allE_cons (mkEntry_ok (F_label_address.ok n)) (allE_cons (mkEntry_ok (F_label_among.ok n)) (allE_nil))
theorem ok (n : Nat) : FnOk Tryz.prog 43 ia io (fRun (X n) n T Tryz.f43 ia io) := tree_ok mixed tabIs (phi n) Tryz.func43 (by kernel_rfl) rfl
noncomputable def en (n : Nat) : Entry := mkEntry 43 ia io (fRun (X n) n T Tryz.f43 ia io)
end F_label_Bucket
end Go.Proofs.YtcpkhpboemfglaaGreatDoor


namespace Go.Proofs.YtcpkhpboemfglaaGreatDoor
open Go Go.Va Go.Proofs
/- chartulary/chartularyref06.four -/
namespace F_ref06_four
abbrev ia : List Ai := [.dat .str]
abbrev io : List (Nat × Oi) := [(2, .dat .bool)]
abbrev R : Type := DOut ia io
noncomputable def X (n : Nat) : Ctx := ⟨⟨tab, [], 0, []⟩, 42, bnOf 0 ia⟩
abbrev g1 : List Si := [.dat 0 .str, .dat 3 (.int .i64), .dat 4 (.int .i64), .dat 5 (.int .i64)]
abbrev g2 : List Si := [.dat 0 .str, .dat 3 (.int .i64), .dat 4 (.int .i64), .dat 5 (.int .i64)]
abbrev g3 : List Si := [.dat 3 (.int .i64), .dat 4 (.int .i64)]
noncomputable def T : CT := (.s .o (.s .o (.s (.s .o (.b (.l g1 (.s .o (.s .o (.r g2 .o)))))) (.r g3 .o))))
noncomputable def J1 (n : Nat) (m : Nat) : ByteArray × Int × Int × Int × Unit → Option R := jL (X n) n T (bodyOf Tryz.f132) (endK ia io) g1 [1, 1, 0, 1, 0] [] m
noncomputable def J2 (n m1 : Nat) : ByteArray × Int × Int × Int × Unit → Option R := jR (X n) n T (bodyOf Tryz.f132) (endK ia io) g2 [1, 1, 0, 1, 0, 0, 1, 1] [m1]
noncomputable def J3 (n : Nat) : Int × Int × Unit → Option R := jR (X n) n T (bodyOf Tryz.f132) (endK ia io) g3 [1, 1, 1] []
noncomputable def f (n : Nat) (s_ : ByteArray) : Option R := fRun (X n) n T Tryz.f132 ia io (s_, ())
theorem e0 (n : Nat) (s_ : ByteArray) : f n s_ =
  J1 n n (s_, 0, 0, 0, ()) := (hideF_eq _).trans (by kernel_rfl)
theorem e1 (n m : Nat) (s_ : ByteArray) (points : Int) (digits : Int) (i : Int) : J1 n (m + 1) (s_, points, digits, i, ()) =
  bIf ((hide (decide (i < (s_.size : Int))))) (
    gIf (0 ≤ i ∧ i < (s_.size : Int)) (
      bIf ((hide ((bt s_ i) == (46 : Int)))) (
        bIf ((hide (digits == (0 : Int)))) (
          some (false, ())
          ) (
          J2 n m (s_, (IntKind.i64.wrap (points + (1 : Int))), 0, i, ())
          )
        ) (
        gIf (0 ≤ i ∧ i < (s_.size : Int)) (
          bIf ((hide (decide ((bt s_ i) < (48 : Int))))) (
            some (false, ())
            ) (
            gIf (0 ≤ i ∧ i < (s_.size : Int)) (
              bIf ((hide (decide ((bt s_ i) > (57 : Int))))) (
                some (false, ())
                ) (
                bIf ((hide (decide ((IntKind.i64.wrap (digits + (1 : Int))) > (3 : Int))))) (
                  some (false, ())
                  ) (
                  J2 n m (s_, points, (IntKind.i64.wrap (digits + (1 : Int))), i, ())
                  )
                )
              )
            )
          )
        )
      )
    ) (
    J3 n (points, digits, ())
    ) := (hideF_eq _).trans (by kernel_rfl)
theorem e2 (n m1 : Nat) (s_ : ByteArray) (points : Int) (digits : Int) (i : Int) : J2 n m1 (s_, points, digits, i, ()) =
  J1 n m1 (s_, points, digits, (IntKind.i64.wrap (i + (1 : Int))), ()) := (hideF_eq _).trans (by kernel_rfl)
theorem e3 (n : Nat) (points : Int) (digits : Int) : J3 n (points, digits, ()) =
  bIf ((hide (points == (3 : Int)))) (
    some ((hide (decide (digits > (0 : Int)))), ())
    ) (
    some (false, ())
    ) := (hideF_eq _).trans (by kernel_rfl)
theorem phi (n : Nat) : ∀ e ∈ (X n).c.Φ, EntryOk Tryz.prog e := allE_nil
theorem ok (n : Nat) : FnOk Tryz.prog 132 ia io (fRun (X n) n T Tryz.f132 ia io) := tree_ok mixed tabIs (phi n) Tryz.func132 (by kernel_rfl) rfl
noncomputable def en (n : Nat) : Entry := mkEntry 132 ia io (fRun (X n) n T Tryz.f132 ia io)
end F_ref06_four
end Go.Proofs.YtcpkhpboemfglaaGreatDoor


namespace Go.Proofs.YtcpkhpboemfglaaGreatDoor
open Go Go.Va Go.Proofs
/- chartulary/chartularyref06.low -/
namespace F_ref06_low
abbrev ia : List Ai := [.dat (.int .u8)]
abbrev io : List (Nat × Oi) := [(2, .dat .bool)]
abbrev R : Type := DOut ia io
noncomputable def X (n : Nat) : Ctx := ⟨⟨tab, [], 0, []⟩, 17, bnOf 0 ia⟩
noncomputable def T : CT := .o
noncomputable def f (n : Nat) (b : Int) : Option R := fRun (X n) n T Tryz.f131 ia io (b, ())
theorem e0 (n : Nat) (b : Int) : f n b =
  bIf ((hide (decide (b ≥ (97 : Int))))) (
    bIf ((hide (decide (b ≤ (122 : Int))))) (
      some (true, ())
      ) (
      bIf ((hide (decide (b ≥ (48 : Int))))) (
        some ((hide (decide (b ≤ (57 : Int)))), ())
        ) (
        some (false, ())
        )
      )
    ) (
    bIf ((hide (decide (b ≥ (48 : Int))))) (
      some ((hide (decide (b ≤ (57 : Int)))), ())
      ) (
      some (false, ())
      )
    ) := (hideF_eq _).trans (by kernel_rfl)
theorem phi (n : Nat) : ∀ e ∈ (X n).c.Φ, EntryOk Tryz.prog e := allE_nil
theorem ok (n : Nat) : FnOk Tryz.prog 131 ia io (fRun (X n) n T Tryz.f131 ia io) := tree_ok mixed tabIs (phi n) Tryz.func131 (by kernel_rfl) rfl
noncomputable def en (n : Nat) : Entry := mkEntry 131 ia io (fRun (X n) n T Tryz.f131 ia io)
end F_ref06_low
end Go.Proofs.YtcpkhpboemfglaaGreatDoor


namespace Go.Proofs.YtcpkhpboemfglaaGreatDoor
open Go Go.Va Go.Proofs
/- chartulary/chartularyref06.Bucket -/
namespace F_ref06_Bucket
abbrev ia : List Ai := [.dat .str]
abbrev io : List (Nat × Oi) := [(2, .dat .bool)]
abbrev R : Type := DOut ia io
noncomputable def X (n : Nat) : Ctx := ⟨⟨tab, [F_ref06_low.en n, F_ref06_four.en n], 0, []⟩, 85, bnOf 0 ia⟩
abbrev g1 : List Si := [.dat 0 .str]
abbrev g2 : List Si := [.dat 0 .str, .dat 3 (.int .i64)]
abbrev g3 : List Si := [.dat 0 .str, .dat 3 (.int .i64)]
abbrev g4 : List Si := [.dat 0 .str, .dat 3 (.int .i64)]
abbrev g5 : List Si := []
noncomputable def T : CT := (.s .o (.s .o (.r g1 (.s (.s .o (.b (.l g2 (.s .o (.s (.b (.s .o (.r g3 .o))) (.r g4 .o)))))) (.r g5 .o)))))
noncomputable def J1 (n : Nat) : ByteArray × Unit → Option R := jR (X n) n T (bodyOf Tryz.f47) (endK ia io) g1 [1, 1] []
noncomputable def J2 (n : Nat) (m : Nat) : ByteArray × Int × Unit → Option R := jL (X n) n T (bodyOf Tryz.f47) (endK ia io) g2 [1, 1, 0, 1, 0] [] m
noncomputable def J3 (n m2 : Nat) : ByteArray × Int × Unit → Option R := jR (X n) n T (bodyOf Tryz.f47) (endK ia io) g3 [1, 1, 0, 1, 0, 0, 1, 0, 0, 1] [m2]
noncomputable def J4 (n m2 : Nat) : ByteArray × Int × Unit → Option R := jR (X n) n T (bodyOf Tryz.f47) (endK ia io) g4 [1, 1, 0, 1, 0, 0, 1, 1] [m2]
noncomputable def J5 (n : Nat) : Unit → Option R := jR (X n) n T (bodyOf Tryz.f47) (endK ia io) g5 [1, 1, 1] []
noncomputable def f (n : Nat) (s_ : ByteArray) : Option R := fRun (X n) n T Tryz.f47 ia io (s_, ())
theorem e0 (n : Nat) (s_ : ByteArray) : f n s_ =
  bIf ((hide (decide ((s_.size : Int) < (3 : Int))))) (
    some (false, ())
    ) (
    bIf ((hide (decide ((s_.size : Int) > (63 : Int))))) (
      some (false, ())
      ) (
      gIf (0 ≤ (0 : Int) ∧ (0 : Int) < (s_.size : Int)) (
        bnd (F_ref06_low.f n (bt s_ 0)) fun u1 =>
        bIf ((!u1.1)) (
          some (false, ())
          ) (
          gIf (0 ≤ (IntKind.i64.wrap ((s_.size : Int) - (1 : Int))) ∧ (IntKind.i64.wrap ((s_.size : Int) - (1 : Int))) < (s_.size : Int)) (
            bnd (F_ref06_low.f n (bt s_ (IntKind.i64.wrap ((s_.size : Int) - (1 : Int))))) fun u2 =>
            bIf ((!u2.1)) (
              some (false, ())
              ) (
              bnd (F_ref06_four.f n s_) fun u3 =>
              bIf (u3.1) (
                some (false, ())
                ) (
                J1 n (s_, ())
                )
              )
            )
          )
        )
      )
    ) := (hideF_eq _).trans (by kernel_rfl)
theorem e1 (n : Nat) (s_ : ByteArray) : J1 n (s_, ()) =
  J2 n n (s_, 0, ()) := (hideF_eq _).trans (by kernel_rfl)
theorem e2 (n m : Nat) (s_ : ByteArray) (i : Int) : J2 n (m + 1) (s_, i, ()) =
  bIf ((hide (decide (i < (s_.size : Int))))) (
    gIf (0 ≤ i ∧ i < (s_.size : Int)) (
      bnd (F_ref06_low.f n (bt s_ i)) fun u1 =>
      bIf ((!u1.1)) (
        gIf (0 ≤ i ∧ i < (s_.size : Int)) (
          bIf ((hide ((bt s_ i) != (45 : Int)))) (
            gIf (0 ≤ i ∧ i < (s_.size : Int)) (
              bIf ((hide ((bt s_ i) != (46 : Int)))) (
                some (false, ())
                ) (
                J3 n m (s_, i, ())
                )
              )
            ) (
            J3 n m (s_, i, ())
            )
          )
        ) (
        J3 n m (s_, i, ())
        )
      )
    ) (
    J5 n (())
    ) := (hideF_eq _).trans (by kernel_rfl)
theorem e3 (n m2 : Nat) (s_ : ByteArray) (i : Int) : J3 n m2 (s_, i, ()) =
  bIf ((hide (decide (i > (0 : Int))))) (
    gIf (0 ≤ i ∧ i < (s_.size : Int)) (
      bnd (F_ref06_low.f n (bt s_ i)) fun u1 =>
      bIf ((!u1.1)) (
        gIf (0 ≤ (IntKind.i64.wrap (i - (1 : Int))) ∧ (IntKind.i64.wrap (i - (1 : Int))) < (s_.size : Int)) (
          bnd (F_ref06_low.f n (bt s_ (IntKind.i64.wrap (i - (1 : Int))))) fun u2 =>
          bIf ((!u2.1)) (
            gIf (0 ≤ i ∧ i < (s_.size : Int)) (
              bIf ((hide ((bt s_ i) == (45 : Int)))) (
                gIf (0 ≤ (IntKind.i64.wrap (i - (1 : Int))) ∧ (IntKind.i64.wrap (i - (1 : Int))) < (s_.size : Int)) (
                  bIf ((!(hide ((bt s_ (IntKind.i64.wrap (i - (1 : Int)))) == (45 : Int))))) (
                    some (false, ())
                    ) (
                    J4 n m2 (s_, i, ())
                    )
                  )
                ) (
                some (false, ())
                )
              )
            ) (
            J4 n m2 (s_, i, ())
            )
          )
        ) (
        J4 n m2 (s_, i, ())
        )
      )
    ) (
    J4 n m2 (s_, i, ())
    ) := (hideF_eq _).trans (by kernel_rfl)
theorem e4 (n m2 : Nat) (s_ : ByteArray) (i : Int) : J4 n m2 (s_, i, ()) =
  J2 n m2 (s_, (IntKind.i64.wrap (i + (1 : Int))), ()) := (hideF_eq _).trans (by kernel_rfl)
theorem e5 (n : Nat) : J5 n (()) =
  some (true, ()) := (hideF_eq _).trans (by kernel_rfl)
theorem phi (n : Nat) : ∀ e ∈ (X n).c.Φ, EntryOk Tryz.prog e := allE_cons (mkEntry_ok (F_ref06_low.ok n)) (allE_cons (mkEntry_ok (F_ref06_four.ok n)) (allE_nil))
theorem ok (n : Nat) : FnOk Tryz.prog 47 ia io (fRun (X n) n T Tryz.f47 ia io) := tree_ok mixed tabIs (phi n) Tryz.func47 (by kernel_rfl) rfl
noncomputable def en (n : Nat) : Entry := mkEntry 47 ia io (fRun (X n) n T Tryz.f47 ia io)
end F_ref06_Bucket
end Go.Proofs.YtcpkhpboemfglaaGreatDoor


namespace Go.Proofs.YtcpkhpboemfglaaGreatDoor
open Go Go.Va Go.Proofs
/- chartulary/entry.sameRule -/
namespace F_entry_sameRule
abbrev ia : List Ai := [.dat T_api_Rule, .dat T_api_Rule]
abbrev io : List (Nat × Oi) := [(4, .dat .bool)]
abbrev R : Type := DOut ia io
noncomputable def X (n : Nat) : Ctx := ⟨⟨tab, [F_tags_Same.en n], 0, []⟩, 38, bnOf 0 ia⟩
noncomputable def T : CT := .o
noncomputable def f (n : Nat) (a : D_api_Rule) (b : D_api_Rule) : Option R := fRun (X n) n T Tryz.f136 ia io (a, b, ())
theorem e0 (n : Nat) (a : D_api_Rule) (b : D_api_Rule) : f n a b =
  bIf ((hide (eqS a.1 b.1))) (
    bIf ((hide (a.2.2.1 == b.2.2.1))) (
      bIf ((hide (a.2.2.2.1 == b.2.2.2.1))) (
        bIf ((hide (a.2.2.2.2.1 == b.2.2.2.2.1))) (
          bnd (F_tags_Same.f n a.2.1 b.2.1) fun u1 =>
          some (u1.1, ())
          ) (
          some (false, ())
          )
        ) (
        some (false, ())
        )
      ) (
      some (false, ())
      )
    ) (
    some (false, ())
    ) := (hideF_eq _).trans (by kernel_rfl)
theorem phi (n : Nat) : ∀ e ∈ (X n).c.Φ, EntryOk Tryz.prog e := allE_cons (mkEntry_ok (F_tags_Same.ok n)) (allE_nil)
theorem ok (n : Nat) : FnOk Tryz.prog 136 ia io (fRun (X n) n T Tryz.f136 ia io) := tree_ok mixed tabIs (phi n) Tryz.func136 (by kernel_rfl) rfl
noncomputable def en (n : Nat) : Entry := mkEntry 136 ia io (fRun (X n) n T Tryz.f136 ia io)
end F_entry_sameRule
end Go.Proofs.YtcpkhpboemfglaaGreatDoor


namespace Go.Proofs.YtcpkhpboemfglaaGreatDoor
open Go Go.Va Go.Proofs
/- slices.EqualFunc[[]chartulary/api.Rule,[]chartulary/api.Rule,chartulary/api.Rule,chartulary/api.Rule] -/
namespace F_slices_EqualFunc_Rule
abbrev ia : List Ai := [.dat (.slice T_api_Rule), .dat (.slice T_api_Rule), .fn (.fn 136) []]
abbrev io : List (Nat × Oi) := [(6, .dat .bool)]
abbrev R : Type := DOut ia io
noncomputable def X (n : Nat) : Ctx := ⟨⟨tab, [F_entry_sameRule.en n], 0, []⟩, 32, bnOf 0 ia⟩
abbrev g1 : List Si := [.dat 1 (.slice T_api_Rule), .clo 2 (.fn 136) [], .dat 15 (.slice T_api_Rule), .dat 16 (.int .i64), .dat 17 (.int .i64)]
abbrev g2 : List Si := []
noncomputable def T : CT := (.s .o (.s .o (.s (.s .o (.b (.l g1 .o))) (.r g2 .o))))
noncomputable def J1 (n : Nat) (m : Nat) : (List (D_api_Rule)) × (List (D_api_Rule)) × Int × Int × Unit → Option R := jL (X n) n T (bodyOf Tryz.f135) (endK ia io) g1 [1, 1, 0, 1, 0] [] m
noncomputable def J2 (n : Nat) : Unit → Option R := jR (X n) n T (bodyOf Tryz.f135) (endK ia io) g2 [1, 1, 1] []
noncomputable def f (n : Nat) (s1 : List (D_api_Rule)) (s2 : List (D_api_Rule)) : Option R := fRun (X n) n T Tryz.f135 ia io (s1, s2, ())
theorem e0 (n : Nat) (s1 : List (D_api_Rule)) (s2 : List (D_api_Rule)) : f n s1 s2 =
  bIf ((hide (((s1.length : Nat) : Int) != ((s2.length : Nat) : Int)))) (
    some (false, ())
    ) (
    J1 n n (s2, s1, ((s1.length : Nat) : Int), 0, ())
    ) := (hideF_eq _).trans (by kernel_rfl)
theorem e1 (n m : Nat) (s2 : List (D_api_Rule)) (t15 : List (D_api_Rule)) (t16 : Int) (t17 : Int) : J1 n (m + 1) (s2, t15, t16, t17, ()) =
  bIf ((hide (decide (t17 < t16)))) (
    gIf (0 ≤ t17 ∧ t17 < ((t15.length : Nat) : Int)) (
      gIf (0 ≤ t17 ∧ t17 < ((s2.length : Nat) : Int)) (
        bnd (F_entry_sameRule.f n (List.getD t15 t17.toNat (Va.dflt T_api_Rule)) (List.getD s2 t17.toNat (Va.dflt T_api_Rule))) fun u1 =>
        bIf ((!u1.1)) (
          some (false, ())
          ) (
          J1 n m (s2, t15, t16, (IntKind.i64.wrap (t17 + (1 : Int))), ())
          )
        )
      )
    ) (
    J2 n (())
    ) := (hideF_eq _).trans (by kernel_rfl)
theorem e2 (n : Nat) : J2 n (()) =
  some (true, ()) := (hideF_eq _).trans (by kernel_rfl)
theorem phi (n : Nat) : ∀ e ∈ (X n).c.Φ, EntryOk Tryz.prog e := allE_cons (mkEntry_ok (F_entry_sameRule.ok n)) (allE_nil)
theorem ok (n : Nat) : FnOk Tryz.prog 135 ia io (fRun (X n) n T Tryz.f135 ia io) := tree_ok mixed tabIs (phi n) Tryz.func135 (by kernel_rfl) rfl
noncomputable def en (n : Nat) : Entry := mkEntry 135 ia io (fRun (X n) n T Tryz.f135 ia io)
end F_slices_EqualFunc_Rule
end Go.Proofs.YtcpkhpboemfglaaGreatDoor


namespace Go.Proofs.YtcpkhpboemfglaaGreatDoor
open Go Go.Va Go.Proofs
/- chartulary/entry.SameRules -/
namespace F_entry_SameRules
abbrev ia : List Ai := [.dat (.slice T_api_Rule), .dat (.slice T_api_Rule)]
abbrev io : List (Nat × Oi) := [(4, .dat .bool)]
abbrev R : Type := DOut ia io
noncomputable def X (n : Nat) : Ctx := ⟨⟨tab, [F_slices_EqualFunc_Rule.en n], 0, []⟩, 8, bnOf 0 ia⟩
noncomputable def T : CT := .o
noncomputable def f (n : Nat) (a : List (D_api_Rule)) (b : List (D_api_Rule)) : Option R := fRun (X n) n T Tryz.f60 ia io (a, b, ())
theorem e0 (n : Nat) (a : List (D_api_Rule)) (b : List (D_api_Rule)) : f n a b =
  bnd (F_slices_EqualFunc_Rule.f n a b) fun u1 =>
  some (u1.1, ()) := (hideF_eq _).trans (by kernel_rfl)
theorem phi (n : Nat) : ∀ e ∈ (X n).c.Φ, EntryOk Tryz.prog e := allE_cons (mkEntry_ok (F_slices_EqualFunc_Rule.ok n)) (allE_nil)
theorem ok (n : Nat) : FnOk Tryz.prog 60 ia io (fRun (X n) n T Tryz.f60 ia io) := tree_ok mixed tabIs (phi n) Tryz.func60 (by kernel_rfl) rfl
noncomputable def en (n : Nat) : Entry := mkEntry 60 ia io (fRun (X n) n T Tryz.f60 ia io)
end F_entry_SameRules
end Go.Proofs.YtcpkhpboemfglaaGreatDoor


namespace Go.Proofs.YtcpkhpboemfglaaGreatDoor
open Go Go.Va Go.Proofs
/- slices.Equal[[]chartulary/api.Grant,chartulary/api.Grant] -/
namespace F_slices_Equal_Grant
abbrev ia : List Ai := [.dat (.slice T_api_Grant), .dat (.slice T_api_Grant)]
abbrev io : List (Nat × Oi) := [(4, .dat .bool)]
abbrev R : Type := DOut ia io
noncomputable def X (n : Nat) : Ctx := ⟨⟨tab, [], 0, []⟩, 26, bnOf 0 ia⟩
abbrev g1 : List Si := [.dat 0 (.slice T_api_Grant), .dat 1 (.slice T_api_Grant), .dat 12 (.int .i64), .dat 13 (.int .i64)]
abbrev g2 : List Si := []
noncomputable def T : CT := (.s .o (.s .o (.s (.s .o (.b (.l g1 .o))) (.r g2 .o))))
noncomputable def J1 (n : Nat) (m : Nat) : (List (D_api_Grant)) × (List (D_api_Grant)) × Int × Int × Unit → Option R := jL (X n) n T (bodyOf Tryz.f61) (endK ia io) g1 [1, 1, 0, 1, 0] [] m
noncomputable def J2 (n : Nat) : Unit → Option R := jR (X n) n T (bodyOf Tryz.f61) (endK ia io) g2 [1, 1, 1] []
noncomputable def f (n : Nat) (s1 : List (D_api_Grant)) (s2 : List (D_api_Grant)) : Option R := fRun (X n) n T Tryz.f61 ia io (s1, s2, ())
theorem e0 (n : Nat) (s1 : List (D_api_Grant)) (s2 : List (D_api_Grant)) : f n s1 s2 =
  bIf ((hide (((s1.length : Nat) : Int) != ((s2.length : Nat) : Int)))) (
    some (false, ())
    ) (
    J1 n n (s1, s2, ((s1.length : Nat) : Int), 0, ())
    ) := (hideF_eq _).trans (by kernel_rfl)
theorem e1 (n m : Nat) (s1 : List (D_api_Grant)) (s2 : List (D_api_Grant)) (t12 : Int) (t13 : Int) : J1 n (m + 1) (s1, s2, t12, t13, ()) =
  bIf ((hide (decide (t13 < t12)))) (
    gIf (0 ≤ t13 ∧ t13 < ((s1.length : Nat) : Int)) (
      gIf (0 ≤ t13 ∧ t13 < ((s2.length : Nat) : Int)) (
        bIf ((hide (!(eqD T_api_Grant (List.getD s1 t13.toNat (Va.dflt T_api_Grant)) (List.getD s2 t13.toNat (Va.dflt T_api_Grant)))))) (
          some (false, ())
          ) (
          J1 n m (s1, s2, t12, (IntKind.i64.wrap (t13 + (1 : Int))), ())
          )
        )
      )
    ) (
    J2 n (())
    ) := (hideF_eq _).trans (by kernel_rfl)
theorem e2 (n : Nat) : J2 n (()) =
  some (true, ()) := (hideF_eq _).trans (by kernel_rfl)
theorem phi (n : Nat) : ∀ e ∈ (X n).c.Φ, EntryOk Tryz.prog e := allE_nil
theorem ok (n : Nat) : FnOk Tryz.prog 61 ia io (fRun (X n) n T Tryz.f61 ia io) := tree_ok mixed tabIs (phi n) Tryz.func61 (by kernel_rfl) rfl
noncomputable def en (n : Nat) : Entry := mkEntry 61 ia io (fRun (X n) n T Tryz.f61 ia io)
end F_slices_Equal_Grant
end Go.Proofs.YtcpkhpboemfglaaGreatDoor


namespace Go.Proofs.YtcpkhpboemfglaaGreatDoor
open Go Go.Va Go.Proofs
/- chartulary/entry.Same -/
namespace F_entry_Same
abbrev ia : List Ai := [.dat T_api_Entry, .dat T_api_Entry]
abbrev io : List (Nat × Oi) := [(4, .dat .bool)]
abbrev R : Type := DOut ia io
noncomputable def X (n : Nat) : Ctx := ⟨⟨tab, [F_object_SameVersion.en n, F_tags_Same.en n, F_entry_SameRules.en n, F_slices_Equal_Grant.en n], 0, []⟩, 85, bnOf 0 ia⟩
abbrev g1 : List Si := [.ref 2 2 T_api_Entry, .ref 3 3 T_api_Entry, .box 2 (.d T_api_Entry), .box 3 (.d T_api_Entry)]
noncomputable def T : CT := (.s .o (.s .o (.r g1 .o)))
noncomputable def J1 (n : Nat) : D_api_Entry × D_api_Entry × Unit → Option R := jR (X n) n T (bodyOf Tryz.f18) (endK ia io) g1 [1, 1] []
noncomputable def f (n : Nat) (a : D_api_Entry) (b : D_api_Entry) : Option R := fRun (X n) n T Tryz.f18 ia io (a, b, ())
theorem e0 (n : Nat) (a : D_api_Entry) (b : D_api_Entry) : f n a b =
  bIf ((hide (a.1 != b.1))) (
    some (false, ())
    ) (
    bIf ((hide (a.2.1 != b.2.1))) (
      some (false, ())
      ) (
      bIf ((hide (!eqS a.2.2.1 b.2.2.1))) (
        some (false, ())
        ) (
        bIf ((hide (!eqS a.2.2.2.1 b.2.2.2.1))) (
          some (false, ())
          ) (
          bIf ((hide (a.2.2.2.2.1 != b.2.2.2.2.1))) (
            some (false, ())
            ) (
            bIf ((hide (!(eqD T_api_Lock a.2.2.2.2.2.2.1 b.2.2.2.2.2.2.1)))) (
              some (false, ())
              ) (
              bIf ((hide (!(eqD T_api_Default a.2.2.2.2.2.2.2.2.1 b.2.2.2.2.2.2.2.2.1)))) (
                some (false, ())
                ) (
                bIf ((hide (!(eqD T_api_Part a.2.2.2.2.2.2.2.2.2.2.2.1 b.2.2.2.2.2.2.2.2.2.2.2.1)))) (
                  some (false, ())
                  ) (
                  J1 n (a, b, ())
                  )
                )
              )
            )
          )
        )
      )
    ) := (hideF_eq _).trans (by kernel_rfl)
theorem e1 (n : Nat) (a : D_api_Entry) (b : D_api_Entry) : J1 n (a, b, ()) =
  bnd (F_object_SameVersion.f n a.2.2.2.2.2.1 b.2.2.2.2.2.1) fun u1 =>
  bIf (u1.1) (
    bnd (F_tags_Same.f n a.2.2.2.2.2.2.2.1 b.2.2.2.2.2.2.2.1) fun u2 =>
    bIf (u2.1) (
      bnd (F_entry_SameRules.f n a.2.2.2.2.2.2.2.2.2.1 b.2.2.2.2.2.2.2.2.2.1) fun u3 =>
      bIf (u3.1) (
        bnd (F_slices_Equal_Grant.f n a.2.2.2.2.2.2.2.2.2.2.1 b.2.2.2.2.2.2.2.2.2.2.1) fun u4 =>
        some (u4.1, ())
        ) (
        some (false, ())
        )
      ) (
      some (false, ())
      )
    ) (
    some (false, ())
    ) := (hideF_eq _).trans (by kernel_rfl)
theorem phi (n : Nat) : ∀ e ∈ (X n).c.Φ, EntryOk Tryz.prog e := allE_cons (mkEntry_ok (F_object_SameVersion.ok n)) (allE_cons (mkEntry_ok (F_tags_Same.ok n)) (allE_cons (mkEntry_ok (F_entry_SameRules.ok n)) (allE_cons (mkEntry_ok (F_slices_Equal_Grant.ok n)) (allE_nil))))
theorem ok (n : Nat) : FnOk Tryz.prog 18 ia io (fRun (X n) n T Tryz.f18 ia io) := tree_ok mixed tabIs (phi n) Tryz.func18 (by kernel_rfl) rfl
noncomputable def en (n : Nat) : Entry := mkEntry 18 ia io (fRun (X n) n T Tryz.f18 ia io)
end F_entry_Same
end Go.Proofs.YtcpkhpboemfglaaGreatDoor


namespace Go.Proofs.YtcpkhpboemfglaaGreatDoor
open Go Go.Va Go.Proofs
/- chartulary/entry.strip$1 -/
namespace F_entry_strip_1
abbrev ia : List Ai := [.ptr (.d T_api_Entry), .ptr (.d .bool)]
abbrev io : List (Nat × Oi) := []
abbrev R : Type := DOut ia io
noncomputable def X (n : Nat) : Ctx := ⟨⟨tab, [F_label_Key.en n], 0, []⟩, 12, bnOf 0 ia⟩
abbrev g1 : List Si := [.ref 0 500000 T_api_Entry, .box 500000 (.d T_api_Entry), .box 502000 (.d .bool)]
noncomputable def T : CT := (.s .o (.r g1 .o))
noncomputable def J1 (n : Nat) : D_api_Entry × Bool × Unit → Option R := jR (X n) n T (bodyOf Tryz.f122) (endK ia io) g1 [1] []
noncomputable def f (n : Nat) (t0 : D_api_Entry) (t1 : Bool) : Option R := fRun (X n) n T Tryz.f122 ia io (t0, t1, ())
theorem e0 (n : Nat) (t0 : D_api_Entry) (t1 : Bool) : f n t0 t1 =
  bnd (F_label_Key.f n t0.2.2.2.1) fun u1 =>
  bIf (u1.1) (
    J1 n (t0, (hide (decide (t0.2.2.2.2.1 > (0 : Int)))), ())
    ) (
    J1 n (t0, false, ())
    ) := (hideF_eq _).trans (by kernel_rfl)
theorem e1 (n : Nat) (b500000 : D_api_Entry) (b502000 : Bool) : J1 n (b500000, b502000, ()) =
  some ((b500000.1, (b500000.2.1, (b500000.2.2.1, ((⟨#[]⟩ : ByteArray), (0, b500000.2.2.2.2.2))))), b502000, ()) := (hideF_eq _).trans (by kernel_rfl)
theorem phi (n : Nat) : ∀ e ∈ (X n).c.Φ, EntryOk Tryz.prog e := allE_cons (mkEntry_ok (F_label_Key.ok n)) (allE_nil)
theorem ok (n : Nat) : FnOk Tryz.prog 122 ia io (fRun (X n) n T Tryz.f122 ia io) := tree_ok mixed tabIs (phi n) Tryz.func122 (by kernel_rfl) rfl
noncomputable def en (n : Nat) : Entry := mkEntry 122 ia io (fRun (X n) n T Tryz.f122 ia io)
end F_entry_strip_1
end Go.Proofs.YtcpkhpboemfglaaGreatDoor


namespace Go.Proofs.YtcpkhpboemfglaaGreatDoor
open Go Go.Va Go.Proofs
/- chartulary/entry.strip -/
namespace F_entry_strip
abbrev ia : List Ai := [.dat T_api_Entry]
abbrev io : List (Nat × Oi) := [(2, .cel (.d T_api_Entry)), (3, .dat .bool)]
abbrev R : Type := DOut ia io
noncomputable def X (n : Nat) : Ctx := ⟨⟨tab, [F_entry_strip_1.en n, F_label_Key.en n, F_mode_Good.en n, F_entry_Rules.en n, F_entry_Grants.en n, F_object_Good.en n, F_mode_Sound.en n, F_tags_Sound.en n, F_entry_Part.en n], 0, []⟩, 102, bnOf 0 ia⟩
abbrev g1 : List Si := [.ref 1 1 T_api_Entry, .ref 2 2 T_api_Entry, .ref 4 4 .bool, .clo 5 (.fn 122) [(1, T_api_Entry, false), (4, .bool, false)], .dat 8 (.int .i64), .dat 9 .bool, .box 1 (.d T_api_Entry), .box 2 (.p (.d (.int .i64)) (.p (.d (.int .i64)) (.p (.d .str) (.p (.d .str) (.p (.d (.int .u64)) (.p (.p (.d (.int .u64)) (.p (.d .bool) (.p (.d (.int .i64)) (.p (.d (.int .u64)) (.p (.d (.arr 32 (.int .u8))) (.p (.d (.int .i64)) (.p (.d T_api_Lock) (.p (.r 100000000002000 T_api_Tag) (.d .unit))))))))) (.p (.d T_api_Lock) (.p (.r 100000000002001 T_api_Tag) (.p (.d T_api_Default) (.p (.r 100000000002002 T_api_Rule) (.p (.r 100000000002003 T_api_Grant) (.d (.pair T_api_Part .unit))))))))))))), .box 4 (.d .bool)]
abbrev g2 : List Si := [.ref 1 1 T_api_Entry, .ref 2 2 T_api_Entry, .ref 4 4 .bool, .box 1 (.d T_api_Entry), .box 2 (.p (.d (.int .i64)) (.p (.d (.int .i64)) (.p (.d .str) (.p (.d .str) (.p (.d (.int .u64)) (.p (.p (.d (.int .u64)) (.p (.d .bool) (.p (.d (.int .i64)) (.p (.d (.int .u64)) (.p (.d (.arr 32 (.int .u8))) (.p (.d (.int .i64)) (.p (.d T_api_Lock) (.p (.r 100000000002000 T_api_Tag) (.d .unit))))))))) (.p (.d T_api_Lock) (.p (.r 100000000002001 T_api_Tag) (.p (.d T_api_Default) (.p (.r 100000000002002 T_api_Rule) (.p (.r 100000000002003 T_api_Grant) (.d (.pair T_api_Part .unit))))))))))))), .box 4 (.d .bool)]
abbrev g3 : List Si := [.ref 1 1 T_api_Entry, .ref 2 2 T_api_Entry, .ref 4 4 .bool, .box 1 (.d T_api_Entry), .box 2 (.p (.d (.int .i64)) (.p (.d (.int .i64)) (.p (.d .str) (.p (.d .str) (.p (.d (.int .u64)) (.p (.p (.d (.int .u64)) (.p (.d .bool) (.p (.d (.int .i64)) (.p (.d (.int .u64)) (.p (.d (.arr 32 (.int .u8))) (.p (.d (.int .i64)) (.p (.d T_api_Lock) (.p (.r 100000000002000 T_api_Tag) (.d .unit))))))))) (.p (.d T_api_Lock) (.p (.r 100000000002001 T_api_Tag) (.p (.d T_api_Default) (.p (.r 100000000002002 T_api_Rule) (.p (.r 100000000002003 T_api_Grant) (.d (.pair T_api_Part .unit))))))))))))), .box 4 (.d .bool)]
abbrev g4 : List Si := [.ref 1 1 T_api_Entry, .ref 2 2 T_api_Entry, .ref 4 4 .bool, .clo 5 (.fn 122) [(1, T_api_Entry, false), (4, .bool, false)], .dat 8 (.int .i64), .dat 69 .bool, .box 1 (.d T_api_Entry), .box 2 (.p (.d (.int .i64)) (.p (.d (.int .i64)) (.p (.d .str) (.p (.d .str) (.p (.d (.int .u64)) (.p (.p (.d (.int .u64)) (.p (.d .bool) (.p (.d (.int .i64)) (.p (.d (.int .u64)) (.p (.d (.arr 32 (.int .u8))) (.p (.d (.int .i64)) (.p (.d T_api_Lock) (.p (.r 100000000002000 T_api_Tag) (.d .unit))))))))) (.p (.d T_api_Lock) (.p (.r 100000000002001 T_api_Tag) (.p (.d T_api_Default) (.p (.r 100000000002002 T_api_Rule) (.p (.r 100000000002003 T_api_Grant) (.d (.pair T_api_Part .unit))))))))))))), .box 4 (.d .bool)]
abbrev g5 : List Si := [.ref 1 1 T_api_Entry, .ref 2 2 T_api_Entry, .ref 4 4 .bool, .box 1 (.d T_api_Entry), .box 2 (.p (.d (.int .i64)) (.p (.d (.int .i64)) (.p (.d .str) (.p (.d .str) (.p (.d (.int .u64)) (.p (.p (.d (.int .u64)) (.p (.d .bool) (.p (.d (.int .i64)) (.p (.d (.int .u64)) (.p (.d (.arr 32 (.int .u8))) (.p (.d (.int .i64)) (.p (.d T_api_Lock) (.p (.r 100000000002000 T_api_Tag) (.d .unit))))))))) (.p (.d T_api_Lock) (.p (.r 100000000002001 T_api_Tag) (.p (.d T_api_Default) (.p (.r 100000000002002 T_api_Rule) (.p (.r 100000000002003 T_api_Grant) (.d (.pair T_api_Part .unit))))))))))))), .box 4 (.d .bool)]
abbrev g6 : List Si := [.ref 1 1 T_api_Entry, .ref 2 2 T_api_Entry, .ref 4 4 .bool, .box 1 (.d T_api_Entry), .box 2 (.p (.d (.int .i64)) (.p (.d (.int .i64)) (.p (.d .str) (.p (.d .str) (.p (.d (.int .u64)) (.p (.p (.d (.int .u64)) (.p (.d .bool) (.p (.d (.int .i64)) (.p (.d (.int .u64)) (.p (.d (.arr 32 (.int .u8))) (.p (.d (.int .i64)) (.p (.d T_api_Lock) (.p (.r 100000000002000 T_api_Tag) (.d .unit))))))))) (.p (.d T_api_Lock) (.p (.r 100000000002001 T_api_Tag) (.p (.d T_api_Default) (.p (.r 100000000002002 T_api_Rule) (.p (.r 100000000002003 T_api_Grant) (.d (.pair T_api_Part .unit))))))))))))), .box 4 (.d .bool)]
noncomputable def T : CT := (.s .o (.s .o (.s .o (.s (.s .o (.b (.s .o (.r g1 (.c .o (.s .o (.c .o (.s .o (.c .o (.s .o (.c .o (.s .o (.c (.s .o (.r g2 .o)) (.s .o (.c .o (.s .o (.c (.s .o (.s .o (.r g3 .o))) (.s .o (.r g4 (.c .o (.s .o (.c (.s .o (.r g5 .o)) .o)))))))))))))))))))))) (.r g6 .o)))))
noncomputable def J1 (n : Nat) : Int × Bool × D_api_Entry × D_api_Entry × Bool × Unit → Option R := jR (X n) n T (bodyOf Tryz.f44) (endK ia io) g1 [1, 1, 1, 0, 1, 0, 1] []
noncomputable def J2 (n : Nat) : D_api_Entry × D_api_Entry × Bool × Unit → Option R := jR (X n) n T (bodyOf Tryz.f44) (endK ia io) g2 [1, 1, 1, 0, 1, 0, 1, 1, 1, 1, 1, 1, 1, 1, 1, 0, 1] []
noncomputable def J3 (n : Nat) : D_api_Entry × D_api_Entry × Bool × Unit → Option R := jR (X n) n T (bodyOf Tryz.f44) (endK ia io) g3 [1, 1, 1, 0, 1, 0, 1, 1, 1, 1, 1, 1, 1, 1, 1, 1, 1, 1, 1, 0, 1, 1] []
noncomputable def J4 (n : Nat) : Int × Bool × D_api_Entry × D_api_Entry × Bool × Unit → Option R := jR (X n) n T (bodyOf Tryz.f44) (endK ia io) g4 [1, 1, 1, 0, 1, 0, 1, 1, 1, 1, 1, 1, 1, 1, 1, 1, 1, 1, 1, 1, 1] []
noncomputable def J5 (n : Nat) : D_api_Entry × D_api_Entry × Bool × Unit → Option R := jR (X n) n T (bodyOf Tryz.f44) (endK ia io) g5 [1, 1, 1, 0, 1, 0, 1, 1, 1, 1, 1, 1, 1, 1, 1, 1, 1, 1, 1, 1, 1, 1, 1, 0, 1] []
noncomputable def J6 (n : Nat) : D_api_Entry × D_api_Entry × Bool × Unit → Option R := jR (X n) n T (bodyOf Tryz.f44) (endK ia io) g6 [1, 1, 1, 1] []
noncomputable def f (n : Nat) (e_ : D_api_Entry) : Option R := fRun (X n) n T Tryz.f44 ia io (e_, ())
theorem e0 (n : Nat) (e_ : D_api_Entry) : f n e_ =
  bIf ((hide (e_.1 == (1 : Int)))) (
    J1 n (e_.1, true, e_, (0, (0, ((⟨#[]⟩ : ByteArray), ((⟨#[]⟩ : ByteArray), (0, ((0, (false, (0, (0, ((List.replicate 32 0), (0, ((0, (0, (false, ()))), ([], ())))))))), ((0, (0, (false, ()))), ([], ((0, (0, ())), ([], ([], ((0, (0, (0, ((List.replicate 32 0), ())))), ())))))))))))), true, ())
    ) (
    bIf ((hide (e_.1 == (3 : Int)))) (
      J1 n (e_.1, true, e_, (0, (0, ((⟨#[]⟩ : ByteArray), ((⟨#[]⟩ : ByteArray), (0, ((0, (false, (0, (0, ((List.replicate 32 0), (0, ((0, (0, (false, ()))), ([], ())))))))), ((0, (0, (false, ()))), ([], ((0, (0, ())), ([], ([], ((0, (0, (0, ((List.replicate 32 0), ())))), ())))))))))))), true, ())
      ) (
      J1 n (e_.1, (hide (e_.1 == (2 : Int))), e_, (0, (0, ((⟨#[]⟩ : ByteArray), ((⟨#[]⟩ : ByteArray), (0, ((0, (false, (0, (0, ((List.replicate 32 0), (0, ((0, (0, (false, ()))), ([], ())))))))), ((0, (0, (false, ()))), ([], ((0, (0, ())), ([], ([], ((0, (0, (0, ((List.replicate 32 0), ())))), ())))))))))))), true, ())
      )
    ) := (hideF_eq _).trans (by kernel_rfl)
theorem e1 (n : Nat) (t8 : Int) (t9 : Bool) (e_ : D_api_Entry) (b2 : D_api_Entry) (ok_ : Bool) : J1 n (t8, t9, e_, b2, ok_, ()) =
  bIf (t9) (
    J6 n (e_, (b2.1, (b2.2.1, (b2.2.2.1, (b2.2.2.2.1, (b2.2.2.2.2.1, ((b2.2.2.2.2.2.1.1, (b2.2.2.2.2.2.1.2.1, (b2.2.2.2.2.2.1.2.2.1, (b2.2.2.2.2.2.1.2.2.2.1, (b2.2.2.2.2.2.1.2.2.2.2.1, (b2.2.2.2.2.2.1.2.2.2.2.2.1, (b2.2.2.2.2.2.1.2.2.2.2.2.2.1, (b2.2.2.2.2.2.1.2.2.2.2.2.2.2.1, b2.2.2.2.2.2.1.2.2.2.2.2.2.2.2)))))))), (b2.2.2.2.2.2.2.1, (b2.2.2.2.2.2.2.2.1, (b2.2.2.2.2.2.2.2.2.1, (b2.2.2.2.2.2.2.2.2.2.1, (b2.2.2.2.2.2.2.2.2.2.2.1, b2.2.2.2.2.2.2.2.2.2.2.2))))))))))), ok_, ())
    ) (
    bIf ((hide (t8 == (4 : Int)))) (
      bnd (F_mode_Good.f n e_.2.2.2.2.2.2.2.2.1) fun u1 =>
      J6 n ((e_.1, (e_.2.1, (e_.2.2.1, (e_.2.2.2.1, (e_.2.2.2.2.1, (e_.2.2.2.2.2.1, (e_.2.2.2.2.2.2.1, (e_.2.2.2.2.2.2.2.1, ((0, (0, ())), e_.2.2.2.2.2.2.2.2.2))))))))), (b2.1, (b2.2.1, (b2.2.2.1, (b2.2.2.2.1, (b2.2.2.2.2.1, ((b2.2.2.2.2.2.1.1, (b2.2.2.2.2.2.1.2.1, (b2.2.2.2.2.2.1.2.2.1, (b2.2.2.2.2.2.1.2.2.2.1, (b2.2.2.2.2.2.1.2.2.2.2.1, (b2.2.2.2.2.2.1.2.2.2.2.2.1, (b2.2.2.2.2.2.1.2.2.2.2.2.2.1, (b2.2.2.2.2.2.1.2.2.2.2.2.2.2.1, b2.2.2.2.2.2.1.2.2.2.2.2.2.2.2)))))))), (b2.2.2.2.2.2.2.1, (b2.2.2.2.2.2.2.2.1, (b2.2.2.2.2.2.2.2.2.1, (b2.2.2.2.2.2.2.2.2.2.1, (b2.2.2.2.2.2.2.2.2.2.2.1, b2.2.2.2.2.2.2.2.2.2.2.2))))))))))), u1.1, ())
      ) (
      bIf ((hide (t8 == (5 : Int)))) (
        bnd (F_entry_Rules.f n e_.2.2.2.2.2.2.2.2.2.1) fun u2 =>
        J6 n ((e_.1, (e_.2.1, (e_.2.2.1, (e_.2.2.2.1, (e_.2.2.2.2.1, (e_.2.2.2.2.2.1, (e_.2.2.2.2.2.2.1, (e_.2.2.2.2.2.2.2.1, (e_.2.2.2.2.2.2.2.2.1, ([], e_.2.2.2.2.2.2.2.2.2.2)))))))))), (b2.1, (b2.2.1, (b2.2.2.1, (b2.2.2.2.1, (b2.2.2.2.2.1, ((b2.2.2.2.2.2.1.1, (b2.2.2.2.2.2.1.2.1, (b2.2.2.2.2.2.1.2.2.1, (b2.2.2.2.2.2.1.2.2.2.1, (b2.2.2.2.2.2.1.2.2.2.2.1, (b2.2.2.2.2.2.1.2.2.2.2.2.1, (b2.2.2.2.2.2.1.2.2.2.2.2.2.1, (b2.2.2.2.2.2.1.2.2.2.2.2.2.2.1, b2.2.2.2.2.2.1.2.2.2.2.2.2.2.2)))))))), (b2.2.2.2.2.2.2.1, (b2.2.2.2.2.2.2.2.1, (b2.2.2.2.2.2.2.2.2.1, (b2.2.2.2.2.2.2.2.2.2.1, (b2.2.2.2.2.2.2.2.2.2.2.1, b2.2.2.2.2.2.2.2.2.2.2.2))))))))))), u2.1, ())
        ) (
        bIf ((hide (t8 == (6 : Int)))) (
          bnd (F_entry_Grants.f n e_.2.2.2.2.2.2.2.2.2.2.1) fun u3 =>
          J6 n ((e_.1, (e_.2.1, (e_.2.2.1, (e_.2.2.2.1, (e_.2.2.2.2.1, (e_.2.2.2.2.2.1, (e_.2.2.2.2.2.2.1, (e_.2.2.2.2.2.2.2.1, (e_.2.2.2.2.2.2.2.2.1, (e_.2.2.2.2.2.2.2.2.2.1, ([], e_.2.2.2.2.2.2.2.2.2.2.2))))))))))), (b2.1, (b2.2.1, (b2.2.2.1, (b2.2.2.2.1, (b2.2.2.2.2.1, ((b2.2.2.2.2.2.1.1, (b2.2.2.2.2.2.1.2.1, (b2.2.2.2.2.2.1.2.2.1, (b2.2.2.2.2.2.1.2.2.2.1, (b2.2.2.2.2.2.1.2.2.2.2.1, (b2.2.2.2.2.2.1.2.2.2.2.2.1, (b2.2.2.2.2.2.1.2.2.2.2.2.2.1, (b2.2.2.2.2.2.1.2.2.2.2.2.2.2.1, b2.2.2.2.2.2.1.2.2.2.2.2.2.2.2)))))))), (b2.2.2.2.2.2.2.1, (b2.2.2.2.2.2.2.2.1, (b2.2.2.2.2.2.2.2.2.1, (b2.2.2.2.2.2.2.2.2.2.1, (b2.2.2.2.2.2.2.2.2.2.2.1, b2.2.2.2.2.2.2.2.2.2.2.2))))))))))), u3.1, ())
          ) (
          bIf ((hide (t8 == (7 : Int)))) (
            bnd (F_label_Key.f n e_.2.2.2.1) fun u4 =>
            bIf (u4.1) (
              bnd (F_object_Good.f n e_.2.2.2.2.2.1) fun u5 =>
              bIf (u5.1) (
                J2 n (e_, (b2.1, (b2.2.1, (b2.2.2.1, (b2.2.2.2.1, (b2.2.2.2.2.1, ((b2.2.2.2.2.2.1.1, (b2.2.2.2.2.2.1.2.1, (b2.2.2.2.2.2.1.2.2.1, (b2.2.2.2.2.2.1.2.2.2.1, (b2.2.2.2.2.2.1.2.2.2.2.1, (b2.2.2.2.2.2.1.2.2.2.2.2.1, (b2.2.2.2.2.2.1.2.2.2.2.2.2.1, (b2.2.2.2.2.2.1.2.2.2.2.2.2.2.1, b2.2.2.2.2.2.1.2.2.2.2.2.2.2.2)))))))), (b2.2.2.2.2.2.2.1, (b2.2.2.2.2.2.2.2.1, (b2.2.2.2.2.2.2.2.2.1, (b2.2.2.2.2.2.2.2.2.2.1, (b2.2.2.2.2.2.2.2.2.2.2.1, b2.2.2.2.2.2.2.2.2.2.2.2))))))))))), (hide (e_.2.2.2.2.2.1.2.2.2.2.2.1 == e_.2.1)), ())
                ) (
                J2 n (e_, (b2.1, (b2.2.1, (b2.2.2.1, (b2.2.2.2.1, (b2.2.2.2.2.1, ((b2.2.2.2.2.2.1.1, (b2.2.2.2.2.2.1.2.1, (b2.2.2.2.2.2.1.2.2.1, (b2.2.2.2.2.2.1.2.2.2.1, (b2.2.2.2.2.2.1.2.2.2.2.1, (b2.2.2.2.2.2.1.2.2.2.2.2.1, (b2.2.2.2.2.2.1.2.2.2.2.2.2.1, (b2.2.2.2.2.2.1.2.2.2.2.2.2.2.1, b2.2.2.2.2.2.1.2.2.2.2.2.2.2.2)))))))), (b2.2.2.2.2.2.2.1, (b2.2.2.2.2.2.2.2.1, (b2.2.2.2.2.2.2.2.2.1, (b2.2.2.2.2.2.2.2.2.2.1, (b2.2.2.2.2.2.2.2.2.2.2.1, b2.2.2.2.2.2.2.2.2.2.2.2))))))))))), false, ())
                )
              ) (
              J2 n (e_, (b2.1, (b2.2.1, (b2.2.2.1, (b2.2.2.2.1, (b2.2.2.2.2.1, ((b2.2.2.2.2.2.1.1, (b2.2.2.2.2.2.1.2.1, (b2.2.2.2.2.2.1.2.2.1, (b2.2.2.2.2.2.1.2.2.2.1, (b2.2.2.2.2.2.1.2.2.2.2.1, (b2.2.2.2.2.2.1.2.2.2.2.2.1, (b2.2.2.2.2.2.1.2.2.2.2.2.2.1, (b2.2.2.2.2.2.1.2.2.2.2.2.2.2.1, b2.2.2.2.2.2.1.2.2.2.2.2.2.2.2)))))))), (b2.2.2.2.2.2.2.1, (b2.2.2.2.2.2.2.2.1, (b2.2.2.2.2.2.2.2.2.1, (b2.2.2.2.2.2.2.2.2.2.1, (b2.2.2.2.2.2.2.2.2.2.2.1, b2.2.2.2.2.2.2.2.2.2.2.2))))))))))), false, ())
              )
            ) (
            bIf ((hide (t8 == (8 : Int)))) (
              bnd (F_entry_strip_1.f n e_ ok_) fun u6 =>
              J6 n (u6.1, (b2.1, (b2.2.1, (b2.2.2.1, (b2.2.2.2.1, (b2.2.2.2.2.1, ((b2.2.2.2.2.2.1.1, (b2.2.2.2.2.2.1.2.1, (b2.2.2.2.2.2.1.2.2.1, (b2.2.2.2.2.2.1.2.2.2.1, (b2.2.2.2.2.2.1.2.2.2.2.1, (b2.2.2.2.2.2.1.2.2.2.2.2.1, (b2.2.2.2.2.2.1.2.2.2.2.2.2.1, (b2.2.2.2.2.2.1.2.2.2.2.2.2.2.1, b2.2.2.2.2.2.1.2.2.2.2.2.2.2.2)))))))), (b2.2.2.2.2.2.2.1, (b2.2.2.2.2.2.2.2.1, (b2.2.2.2.2.2.2.2.2.1, (b2.2.2.2.2.2.2.2.2.2.1, (b2.2.2.2.2.2.2.2.2.2.2.1, b2.2.2.2.2.2.2.2.2.2.2.2))))))))))), u6.2.1, ())
              ) (
              bIf ((hide (t8 == (9 : Int)))) (
                bnd (F_entry_strip_1.f n e_ ok_) fun u7 =>
                bIf (u7.2.1) (
                  bnd (F_mode_Sound.f n u7.1.2.2.2.2.2.2.1) fun u8 =>
                  J3 n (u7.1, (b2.1, (b2.2.1, (b2.2.2.1, (b2.2.2.2.1, (b2.2.2.2.2.1, ((b2.2.2.2.2.2.1.1, (b2.2.2.2.2.2.1.2.1, (b2.2.2.2.2.2.1.2.2.1, (b2.2.2.2.2.2.1.2.2.2.1, (b2.2.2.2.2.2.1.2.2.2.2.1, (b2.2.2.2.2.2.1.2.2.2.2.2.1, (b2.2.2.2.2.2.1.2.2.2.2.2.2.1, (b2.2.2.2.2.2.1.2.2.2.2.2.2.2.1, b2.2.2.2.2.2.1.2.2.2.2.2.2.2.2)))))))), (b2.2.2.2.2.2.2.1, (b2.2.2.2.2.2.2.2.1, (b2.2.2.2.2.2.2.2.2.1, (b2.2.2.2.2.2.2.2.2.2.1, (b2.2.2.2.2.2.2.2.2.2.2.1, b2.2.2.2.2.2.2.2.2.2.2.2))))))))))), u8.1, ())
                  ) (
                  J3 n (u7.1, (b2.1, (b2.2.1, (b2.2.2.1, (b2.2.2.2.1, (b2.2.2.2.2.1, ((b2.2.2.2.2.2.1.1, (b2.2.2.2.2.2.1.2.1, (b2.2.2.2.2.2.1.2.2.1, (b2.2.2.2.2.2.1.2.2.2.1, (b2.2.2.2.2.2.1.2.2.2.2.1, (b2.2.2.2.2.2.1.2.2.2.2.2.1, (b2.2.2.2.2.2.1.2.2.2.2.2.2.1, (b2.2.2.2.2.2.1.2.2.2.2.2.2.2.1, b2.2.2.2.2.2.1.2.2.2.2.2.2.2.2)))))))), (b2.2.2.2.2.2.2.1, (b2.2.2.2.2.2.2.2.1, (b2.2.2.2.2.2.2.2.2.1, (b2.2.2.2.2.2.2.2.2.2.1, (b2.2.2.2.2.2.2.2.2.2.2.1, b2.2.2.2.2.2.2.2.2.2.2.2))))))))))), false, ())
                  )
                ) (
                bIf ((hide (t8 == (10 : Int)))) (
                  J4 n (t8, true, e_, (b2.1, (b2.2.1, (b2.2.2.1, (b2.2.2.2.1, (b2.2.2.2.2.1, ((b2.2.2.2.2.2.1.1, (b2.2.2.2.2.2.1.2.1, (b2.2.2.2.2.2.1.2.2.1, (b2.2.2.2.2.2.1.2.2.2.1, (b2.2.2.2.2.2.1.2.2.2.2.1, (b2.2.2.2.2.2.1.2.2.2.2.2.1, (b2.2.2.2.2.2.1.2.2.2.2.2.2.1, (b2.2.2.2.2.2.1.2.2.2.2.2.2.2.1, b2.2.2.2.2.2.1.2.2.2.2.2.2.2.2)))))))), (b2.2.2.2.2.2.2.1, (b2.2.2.2.2.2.2.2.1, (b2.2.2.2.2.2.2.2.2.1, (b2.2.2.2.2.2.2.2.2.2.1, (b2.2.2.2.2.2.2.2.2.2.2.1, b2.2.2.2.2.2.2.2.2.2.2.2))))))))))), ok_, ())
                  ) (
                  J4 n (t8, (hide (t8 == (11 : Int))), e_, (b2.1, (b2.2.1, (b2.2.2.1, (b2.2.2.2.1, (b2.2.2.2.2.1, ((b2.2.2.2.2.2.1.1, (b2.2.2.2.2.2.1.2.1, (b2.2.2.2.2.2.1.2.2.1, (b2.2.2.2.2.2.1.2.2.2.1, (b2.2.2.2.2.2.1.2.2.2.2.1, (b2.2.2.2.2.2.1.2.2.2.2.2.1, (b2.2.2.2.2.2.1.2.2.2.2.2.2.1, (b2.2.2.2.2.2.1.2.2.2.2.2.2.2.1, b2.2.2.2.2.2.1.2.2.2.2.2.2.2.2)))))))), (b2.2.2.2.2.2.2.1, (b2.2.2.2.2.2.2.2.1, (b2.2.2.2.2.2.2.2.2.1, (b2.2.2.2.2.2.2.2.2.2.1, (b2.2.2.2.2.2.2.2.2.2.2.1, b2.2.2.2.2.2.2.2.2.2.2.2))))))))))), ok_, ())
                  )
                )
              )
            )
          )
        )
      )
    ) := (hideF_eq _).trans (by kernel_rfl)
theorem e2 (n : Nat) (e_ : D_api_Entry) (b2 : D_api_Entry) (ok_ : Bool) : J2 n (e_, b2, ok_, ()) =
  J6 n ((e_.1, (e_.2.1, (e_.2.2.1, ((⟨#[]⟩ : ByteArray), (e_.2.2.2.2.1, ((0, (false, (0, (0, ((List.replicate 32 0), (0, ((0, (0, (false, ()))), ([], ())))))))), e_.2.2.2.2.2.2)))))), (b2.1, (b2.2.1, (b2.2.2.1, (b2.2.2.2.1, (b2.2.2.2.2.1, ((b2.2.2.2.2.2.1.1, (b2.2.2.2.2.2.1.2.1, (b2.2.2.2.2.2.1.2.2.1, (b2.2.2.2.2.2.1.2.2.2.1, (b2.2.2.2.2.2.1.2.2.2.2.1, (b2.2.2.2.2.2.1.2.2.2.2.2.1, (b2.2.2.2.2.2.1.2.2.2.2.2.2.1, (b2.2.2.2.2.2.1.2.2.2.2.2.2.2.1, b2.2.2.2.2.2.1.2.2.2.2.2.2.2.2)))))))), (b2.2.2.2.2.2.2.1, (b2.2.2.2.2.2.2.2.1, (b2.2.2.2.2.2.2.2.2.1, (b2.2.2.2.2.2.2.2.2.2.1, (b2.2.2.2.2.2.2.2.2.2.2.1, b2.2.2.2.2.2.2.2.2.2.2.2))))))))))), ok_, ()) := (hideF_eq _).trans (by kernel_rfl)
theorem e3 (n : Nat) (e_ : D_api_Entry) (b2 : D_api_Entry) (ok_ : Bool) : J3 n (e_, b2, ok_, ()) =
  J6 n ((e_.1, (e_.2.1, (e_.2.2.1, (e_.2.2.2.1, (e_.2.2.2.2.1, (e_.2.2.2.2.2.1, ((0, (0, (false, ()))), e_.2.2.2.2.2.2.2))))))), (b2.1, (b2.2.1, (b2.2.2.1, (b2.2.2.2.1, (b2.2.2.2.2.1, ((b2.2.2.2.2.2.1.1, (b2.2.2.2.2.2.1.2.1, (b2.2.2.2.2.2.1.2.2.1, (b2.2.2.2.2.2.1.2.2.2.1, (b2.2.2.2.2.2.1.2.2.2.2.1, (b2.2.2.2.2.2.1.2.2.2.2.2.1, (b2.2.2.2.2.2.1.2.2.2.2.2.2.1, (b2.2.2.2.2.2.1.2.2.2.2.2.2.2.1, b2.2.2.2.2.2.1.2.2.2.2.2.2.2.2)))))))), (b2.2.2.2.2.2.2.1, (b2.2.2.2.2.2.2.2.1, (b2.2.2.2.2.2.2.2.2.1, (b2.2.2.2.2.2.2.2.2.2.1, (b2.2.2.2.2.2.2.2.2.2.2.1, b2.2.2.2.2.2.2.2.2.2.2.2))))))))))), ok_, ()) := (hideF_eq _).trans (by kernel_rfl)
theorem e4 (n : Nat) (t8 : Int) (t69 : Bool) (e_ : D_api_Entry) (b2 : D_api_Entry) (ok_ : Bool) : J4 n (t8, t69, e_, b2, ok_, ()) =
  bIf (t69) (
    bnd (F_entry_strip_1.f n e_ ok_) fun u1 =>
    bIf (u1.2.1) (
      bnd (F_tags_Sound.f n u1.1.2.2.2.2.2.2.2.1) fun u2 =>
      J6 n ((u1.1.1, (u1.1.2.1, (u1.1.2.2.1, (u1.1.2.2.2.1, (u1.1.2.2.2.2.1, (u1.1.2.2.2.2.2.1, (u1.1.2.2.2.2.2.2.1, ([], u1.1.2.2.2.2.2.2.2.2)))))))), (b2.1, (b2.2.1, (b2.2.2.1, (b2.2.2.2.1, (b2.2.2.2.2.1, ((b2.2.2.2.2.2.1.1, (b2.2.2.2.2.2.1.2.1, (b2.2.2.2.2.2.1.2.2.1, (b2.2.2.2.2.2.1.2.2.2.1, (b2.2.2.2.2.2.1.2.2.2.2.1, (b2.2.2.2.2.2.1.2.2.2.2.2.1, (b2.2.2.2.2.2.1.2.2.2.2.2.2.1, (b2.2.2.2.2.2.1.2.2.2.2.2.2.2.1, b2.2.2.2.2.2.1.2.2.2.2.2.2.2.2)))))))), (b2.2.2.2.2.2.2.1, (b2.2.2.2.2.2.2.2.1, (b2.2.2.2.2.2.2.2.2.1, (b2.2.2.2.2.2.2.2.2.2.1, (b2.2.2.2.2.2.2.2.2.2.2.1, b2.2.2.2.2.2.2.2.2.2.2.2))))))))))), u2.1, ())
      ) (
      J6 n ((u1.1.1, (u1.1.2.1, (u1.1.2.2.1, (u1.1.2.2.2.1, (u1.1.2.2.2.2.1, (u1.1.2.2.2.2.2.1, (u1.1.2.2.2.2.2.2.1, ([], u1.1.2.2.2.2.2.2.2.2)))))))), (b2.1, (b2.2.1, (b2.2.2.1, (b2.2.2.2.1, (b2.2.2.2.2.1, ((b2.2.2.2.2.2.1.1, (b2.2.2.2.2.2.1.2.1, (b2.2.2.2.2.2.1.2.2.1, (b2.2.2.2.2.2.1.2.2.2.1, (b2.2.2.2.2.2.1.2.2.2.2.1, (b2.2.2.2.2.2.1.2.2.2.2.2.1, (b2.2.2.2.2.2.1.2.2.2.2.2.2.1, (b2.2.2.2.2.2.1.2.2.2.2.2.2.2.1, b2.2.2.2.2.2.1.2.2.2.2.2.2.2.2)))))))), (b2.2.2.2.2.2.2.1, (b2.2.2.2.2.2.2.2.1, (b2.2.2.2.2.2.2.2.2.1, (b2.2.2.2.2.2.2.2.2.2.1, (b2.2.2.2.2.2.2.2.2.2.2.1, b2.2.2.2.2.2.2.2.2.2.2.2))))))))))), false, ())
      )
    ) (
    bIf ((hide (t8 == (12 : Int)))) (
      bIf ((hide (decide (e_.2.2.2.2.1 > (0 : Int))))) (
        bnd (F_entry_Part.f n e_.2.2.2.2.2.2.2.2.2.2.2.1) fun u3 =>
        J5 n (e_, (b2.1, (b2.2.1, (b2.2.2.1, (b2.2.2.2.1, (b2.2.2.2.2.1, ((b2.2.2.2.2.2.1.1, (b2.2.2.2.2.2.1.2.1, (b2.2.2.2.2.2.1.2.2.1, (b2.2.2.2.2.2.1.2.2.2.1, (b2.2.2.2.2.2.1.2.2.2.2.1, (b2.2.2.2.2.2.1.2.2.2.2.2.1, (b2.2.2.2.2.2.1.2.2.2.2.2.2.1, (b2.2.2.2.2.2.1.2.2.2.2.2.2.2.1, b2.2.2.2.2.2.1.2.2.2.2.2.2.2.2)))))))), (b2.2.2.2.2.2.2.1, (b2.2.2.2.2.2.2.2.1, (b2.2.2.2.2.2.2.2.2.1, (b2.2.2.2.2.2.2.2.2.2.1, (b2.2.2.2.2.2.2.2.2.2.2.1, b2.2.2.2.2.2.2.2.2.2.2.2))))))))))), u3.1, ())
        ) (
        J5 n (e_, (b2.1, (b2.2.1, (b2.2.2.1, (b2.2.2.2.1, (b2.2.2.2.2.1, ((b2.2.2.2.2.2.1.1, (b2.2.2.2.2.2.1.2.1, (b2.2.2.2.2.2.1.2.2.1, (b2.2.2.2.2.2.1.2.2.2.1, (b2.2.2.2.2.2.1.2.2.2.2.1, (b2.2.2.2.2.2.1.2.2.2.2.2.1, (b2.2.2.2.2.2.1.2.2.2.2.2.2.1, (b2.2.2.2.2.2.1.2.2.2.2.2.2.2.1, b2.2.2.2.2.2.1.2.2.2.2.2.2.2.2)))))))), (b2.2.2.2.2.2.2.1, (b2.2.2.2.2.2.2.2.1, (b2.2.2.2.2.2.2.2.2.1, (b2.2.2.2.2.2.2.2.2.2.1, (b2.2.2.2.2.2.2.2.2.2.2.1, b2.2.2.2.2.2.2.2.2.2.2.2))))))))))), false, ())
        )
      ) (
      bIf ((hide (t8 == (13 : Int)))) (
        J6 n ((e_.1, (e_.2.1, (e_.2.2.1, (e_.2.2.2.1, (0, e_.2.2.2.2.2))))), (b2.1, (b2.2.1, (b2.2.2.1, (b2.2.2.2.1, (b2.2.2.2.2.1, ((b2.2.2.2.2.2.1.1, (b2.2.2.2.2.2.1.2.1, (b2.2.2.2.2.2.1.2.2.1, (b2.2.2.2.2.2.1.2.2.2.1, (b2.2.2.2.2.2.1.2.2.2.2.1, (b2.2.2.2.2.2.1.2.2.2.2.2.1, (b2.2.2.2.2.2.1.2.2.2.2.2.2.1, (b2.2.2.2.2.2.1.2.2.2.2.2.2.2.1, b2.2.2.2.2.2.1.2.2.2.2.2.2.2.2)))))))), (b2.2.2.2.2.2.2.1, (b2.2.2.2.2.2.2.2.1, (b2.2.2.2.2.2.2.2.2.1, (b2.2.2.2.2.2.2.2.2.2.1, (b2.2.2.2.2.2.2.2.2.2.2.1, b2.2.2.2.2.2.2.2.2.2.2.2))))))))))), (hide (decide (e_.2.2.2.2.1 > (0 : Int)))), ())
        ) (
        J6 n (e_, (b2.1, (b2.2.1, (b2.2.2.1, (b2.2.2.2.1, (b2.2.2.2.2.1, ((b2.2.2.2.2.2.1.1, (b2.2.2.2.2.2.1.2.1, (b2.2.2.2.2.2.1.2.2.1, (b2.2.2.2.2.2.1.2.2.2.1, (b2.2.2.2.2.2.1.2.2.2.2.1, (b2.2.2.2.2.2.1.2.2.2.2.2.1, (b2.2.2.2.2.2.1.2.2.2.2.2.2.1, (b2.2.2.2.2.2.1.2.2.2.2.2.2.2.1, b2.2.2.2.2.2.1.2.2.2.2.2.2.2.2)))))))), (b2.2.2.2.2.2.2.1, (b2.2.2.2.2.2.2.2.1, (b2.2.2.2.2.2.2.2.2.1, (b2.2.2.2.2.2.2.2.2.2.1, (b2.2.2.2.2.2.2.2.2.2.2.1, b2.2.2.2.2.2.2.2.2.2.2.2))))))))))), false, ())
        )
      )
    ) := (hideF_eq _).trans (by kernel_rfl)
theorem e5 (n : Nat) (e_ : D_api_Entry) (b2 : D_api_Entry) (ok_ : Bool) : J5 n (e_, b2, ok_, ()) =
  J6 n ((e_.1, (e_.2.1, (e_.2.2.1, (e_.2.2.2.1, (0, (e_.2.2.2.2.2.1, (e_.2.2.2.2.2.2.1, (e_.2.2.2.2.2.2.2.1, (e_.2.2.2.2.2.2.2.2.1, (e_.2.2.2.2.2.2.2.2.2.1, (e_.2.2.2.2.2.2.2.2.2.2.1, ((0, (0, (0, ((List.replicate 32 0), ())))), e_.2.2.2.2.2.2.2.2.2.2.2.2)))))))))))), (b2.1, (b2.2.1, (b2.2.2.1, (b2.2.2.2.1, (b2.2.2.2.2.1, ((b2.2.2.2.2.2.1.1, (b2.2.2.2.2.2.1.2.1, (b2.2.2.2.2.2.1.2.2.1, (b2.2.2.2.2.2.1.2.2.2.1, (b2.2.2.2.2.2.1.2.2.2.2.1, (b2.2.2.2.2.2.1.2.2.2.2.2.1, (b2.2.2.2.2.2.1.2.2.2.2.2.2.1, (b2.2.2.2.2.2.1.2.2.2.2.2.2.2.1, b2.2.2.2.2.2.1.2.2.2.2.2.2.2.2)))))))), (b2.2.2.2.2.2.2.1, (b2.2.2.2.2.2.2.2.1, (b2.2.2.2.2.2.2.2.2.1, (b2.2.2.2.2.2.2.2.2.2.1, (b2.2.2.2.2.2.2.2.2.2.2.1, b2.2.2.2.2.2.2.2.2.2.2.2))))))))))), ok_, ()) := (hideF_eq _).trans (by kernel_rfl)
theorem e6 (n : Nat) (e_ : D_api_Entry) (b2 : D_api_Entry) (ok_ : Bool) : J6 n (e_, b2, ok_, ()) =
  some (e_, ok_, ()) := (hideF_eq _).trans (by kernel_rfl)
theorem phi (n : Nat) : ∀ e ∈ (X n).c.Φ, EntryOk Tryz.prog e := allE_cons (mkEntry_ok (F_entry_strip_1.ok n)) (allE_cons (mkEntry_ok (F_label_Key.ok n)) (allE_cons (mkEntry_ok (F_mode_Good.ok n)) (allE_cons (mkEntry_ok (F_entry_Rules.ok n)) (allE_cons (mkEntry_ok (F_entry_Grants.ok n)) (allE_cons (mkEntry_ok (F_object_Good.ok n)) (allE_cons (mkEntry_ok (F_mode_Sound.ok n)) (allE_cons (mkEntry_ok (F_tags_Sound.ok n)) (allE_cons (mkEntry_ok (F_entry_Part.ok n)) (allE_nil)))))))))
theorem ok (n : Nat) : FnOk Tryz.prog 44 ia io (fRun (X n) n T Tryz.f44 ia io) := tree_ok mixed tabIs (phi n) Tryz.func44 (by kernel_rfl) rfl
noncomputable def en (n : Nat) : Entry := mkEntry 44 ia io (fRun (X n) n T Tryz.f44 ia io)
end F_entry_strip
end Go.Proofs.YtcpkhpboemfglaaGreatDoor


namespace Go.Proofs.YtcpkhpboemfglaaGreatDoor
open Go Go.Va Go.Proofs
/- chartulary/entry.Sound -/
namespace F_entry_Sound
abbrev ia : List Ai := [.dat T_api_Entry]
abbrev io : List (Nat × Oi) := [(2, .dat .bool)]
abbrev R : Type := DOut ia io
noncomputable def X (n : Nat) : Ctx := ⟨⟨tab, [F_entry_Same.en n, F_when_Clamp.en n, F_label_Bucket.en n, F_entry_strip.en n], 0, []⟩, 48, bnOf 0 ia⟩
abbrev g1 : List Si := [.ref 1 1 T_api_Entry, .box 1 (.d T_api_Entry)]
noncomputable def T : CT := (.s .o (.s .o (.r g1 .o)))
noncomputable def J1 (n : Nat) : D_api_Entry × Unit → Option R := jR (X n) n T (bodyOf Tryz.f16) (endK ia io) g1 [1, 1] []
noncomputable def f (n : Nat) (e_ : D_api_Entry) : Option R := fRun (X n) n T Tryz.f16 ia io (e_, ())
theorem e0 (n : Nat) (e_ : D_api_Entry) : f n e_ =
  bnd (F_when_Clamp.f n e_.2.1) fun u1 =>
  bIf ((hide (e_.2.1 != u1.1))) (
    some (false, ())
    ) (
    bIf ((hide (!((hide (e_.1 == (1 : Int))) == (hide (eqS e_.2.2.1 (⟨#[]⟩ : ByteArray))))))) (
      some (false, ())
      ) (
      bIf ((hide (!eqS e_.2.2.1 (⟨#[]⟩ : ByteArray)))) (
        bnd (F_label_Bucket.f n e_.2.2.1) fun u2 =>
        bIf ((!u2.1)) (
          some (false, ())
          ) (
          J1 n (e_, ())
          )
        ) (
        J1 n (e_, ())
        )
      )
    ) := (hideF_eq _).trans (by kernel_rfl)
theorem e1 (n : Nat) (e_ : D_api_Entry) : J1 n (e_, ()) =
  bnd (F_entry_strip.f n e_) fun u1 =>
  bIf (u1.2.1) (
    bnd (F_entry_Same.f n u1.1 (e_.1, (e_.2.1, (e_.2.2.1, ((⟨#[]⟩ : ByteArray), (0, ((0, (false, (0, (0, ((List.replicate 32 0), (0, ((0, (0, (false, ()))), ([], ())))))))), ((0, (0, (false, ()))), ([], ((0, (0, ())), ([], ([], ((0, (0, (0, ((List.replicate 32 0), ())))), ()))))))))))))) fun u2 =>
    some (u2.1, ())
    ) (
    some (false, ())
    ) := (hideF_eq _).trans (by kernel_rfl)
theorem phi (n : Nat) : ∀ e ∈ (X n).c.Φ, EntryOk Tryz.prog e := allE_cons (mkEntry_ok (F_entry_Same.ok n)) (allE_cons (mkEntry_ok (F_when_Clamp.ok n)) (allE_cons (mkEntry_ok (F_label_Bucket.ok n)) (allE_cons (mkEntry_ok (F_entry_strip.ok n)) (allE_nil))))
theorem ok (n : Nat) : FnOk Tryz.prog 16 ia io (fRun (X n) n T Tryz.f16 ia io) := tree_ok mixed tabIs (phi n) Tryz.func16 (by kernel_rfl) rfl
noncomputable def en (n : Nat) : Entry := mkEntry 16 ia io (fRun (X n) n T Tryz.f16 ia io)
end F_entry_Sound
end Go.Proofs.YtcpkhpboemfglaaGreatDoor


namespace Go.Proofs.YtcpkhpboemfglaaGreatDoor
open Go Go.Va Go.Proofs
/- chartulary/chartularyref14.has -/
namespace F_ref14_has
abbrev ia : List Ai := [.dat (.int .i64)]
abbrev io : List (Nat × Oi) := [(2, .dat .str)]
abbrev R : Type := DOut ia io
noncomputable def X (n : Nat) : Ctx := ⟨⟨tab, [], 0, []⟩, 27, bnOf 0 ia⟩
abbrev g1 : List Si := [.dat 3 (.int .i64), .dat 4 .bool]
abbrev g2 : List Si := [.dat 3 (.int .i64), .dat 20 .bool]
noncomputable def T : CT := (.s .o (.s (.s .o (.b (.s .o (.r g1 (.c .o (.s .o (.c .o (.s .o (.c .o (.s .o (.c .o (.s .o (.c .o (.s .o (.c .o (.s .o (.c .o (.s .o (.r g2 .o))))))))))))))))))) .o))
noncomputable def J1 (n : Nat) : Int × Bool × Unit → Option R := jR (X n) n T (bodyOf Tryz.f45) (endK ia io) g1 [1, 0, 1, 0, 1] []
noncomputable def J2 (n : Nat) : Int × Bool × Unit → Option R := jR (X n) n T (bodyOf Tryz.f45) (endK ia io) g2 [1, 0, 1, 0, 1, 1, 1, 1, 1, 1, 1, 1, 1, 1, 1, 1, 1, 1, 1] []
noncomputable def f (n : Nat) (kind : Int) : Option R := fRun (X n) n T Tryz.f45 ia io (kind, ())
theorem e0 (n : Nat) (kind : Int) : f n kind =
  bIf ((hide (kind == (1 : Int)))) (
    J1 n (kind, true, ())
    ) (
    bIf ((hide (kind == (2 : Int)))) (
      J1 n (kind, true, ())
      ) (
      J1 n (kind, (hide (kind == (3 : Int))), ())
      )
    ) := (hideF_eq _).trans (by kernel_rfl)
theorem e1 (n : Nat) (t3 : Int) (t4 : Bool) : J1 n (t3, t4, ()) =
  bIf (t4) (
    some ((⟨#[46]⟩ : ByteArray), ())
    ) (
    bIf ((hide (t3 == (4 : Int)))) (
      some ((⟨#[100]⟩ : ByteArray), ())
      ) (
      bIf ((hide (t3 == (5 : Int)))) (
        some ((⟨#[114]⟩ : ByteArray), ())
        ) (
        bIf ((hide (t3 == (6 : Int)))) (
          some ((⟨#[103]⟩ : ByteArray), ())
          ) (
          bIf ((hide (t3 == (7 : Int)))) (
            some ((⟨#[107, 118]⟩ : ByteArray), ())
            ) (
            bIf ((hide (t3 == (8 : Int)))) (
              some ((⟨#[107, 105]⟩ : ByteArray), ())
              ) (
              bIf ((hide (t3 == (9 : Int)))) (
                some ((⟨#[107, 105, 108]⟩ : ByteArray), ())
                ) (
                bIf ((hide (t3 == (10 : Int)))) (
                  J2 n (t3, true, ())
                  ) (
                  J2 n (t3, (hide (t3 == (11 : Int))), ())
                  )
                )
              )
            )
          )
        )
      )
    ) := (hideF_eq _).trans (by kernel_rfl)
theorem e2 (n : Nat) (t3 : Int) (t20 : Bool) : J2 n (t3, t20, ()) =
  bIf (t20) (
    some ((⟨#[107, 105, 116]⟩ : ByteArray), ())
    ) (
    bIf ((hide (t3 == (12 : Int)))) (
      some ((⟨#[105, 112]⟩ : ByteArray), ())
      ) (
      bIf ((hide (t3 == (13 : Int)))) (
        some ((⟨#[105]⟩ : ByteArray), ())
        ) (
        some ((⟨#[]⟩ : ByteArray), ())
        )
      )
    ) := (hideF_eq _).trans (by kernel_rfl)
theorem phi (n : Nat) : ∀ e ∈ (X n).c.Φ, EntryOk Tryz.prog e := allE_nil
theorem ok (n : Nat) : FnOk Tryz.prog 45 ia io (fRun (X n) n T Tryz.f45 ia io) := tree_ok mixed tabIs (phi n) Tryz.func45 (by kernel_rfl) rfl
noncomputable def en (n : Nat) : Entry := mkEntry 45 ia io (fRun (X n) n T Tryz.f45 ia io)
end F_ref14_has
end Go.Proofs.YtcpkhpboemfglaaGreatDoor


namespace Go.Proofs.YtcpkhpboemfglaaGreatDoor
open Go Go.Va Go.Proofs
/- chartulary/chartularyref14.in -/
namespace F_ref14_in
abbrev ia : List Ai := [.dat .str, .dat (.int .u8)]
abbrev io : List (Nat × Oi) := [(4, .dat .bool)]
abbrev R : Type := DOut ia io
noncomputable def X (n : Nat) : Ctx := ⟨⟨tab, [], 0, []⟩, 17, bnOf 0 ia⟩
abbrev g1 : List Si := [.dat 0 .str, .dat 1 (.int .u8), .dat 5 (.int .i64)]
abbrev g2 : List Si := []
noncomputable def T : CT := (.s .o (.s (.s .o (.b (.l g1 .o))) (.r g2 .o)))
noncomputable def J1 (n : Nat) (m : Nat) : ByteArray × Int × Int × Unit → Option R := jL (X n) n T (bodyOf Tryz.f48) (endK ia io) g1 [1, 0, 1, 0] [] m
noncomputable def J2 (n : Nat) : Unit → Option R := jR (X n) n T (bodyOf Tryz.f48) (endK ia io) g2 [1, 1] []
noncomputable def f (n : Nat) (s_ : ByteArray) (b : Int) : Option R := fRun (X n) n T Tryz.f48 ia io (s_, b, ())
theorem e0 (n : Nat) (s_ : ByteArray) (b : Int) : f n s_ b =
  J1 n n (s_, b, 0, ()) := (hideF_eq _).trans (by kernel_rfl)
theorem e1 (n m : Nat) (s_ : ByteArray) (b : Int) (i : Int) : J1 n (m + 1) (s_, b, i, ()) =
  bIf ((hide (decide (i < (s_.size : Int))))) (
    gIf (0 ≤ i ∧ i < (s_.size : Int)) (
      bIf ((hide ((bt s_ i) == b))) (
        some (true, ())
        ) (
        J1 n m (s_, b, (IntKind.i64.wrap (i + (1 : Int))), ())
        )
      )
    ) (
    J2 n (())
    ) := (hideF_eq _).trans (by kernel_rfl)
theorem e2 (n : Nat) : J2 n (()) =
  some (false, ()) := (hideF_eq _).trans (by kernel_rfl)
theorem phi (n : Nat) : ∀ e ∈ (X n).c.Φ, EntryOk Tryz.prog e := allE_nil
theorem ok (n : Nat) : FnOk Tryz.prog 48 ia io (fRun (X n) n T Tryz.f48 ia io) := tree_ok mixed tabIs (phi n) Tryz.func48 (by kernel_rfl) rfl
noncomputable def en (n : Nat) : Entry := mkEntry 48 ia io (fRun (X n) n T Tryz.f48 ia io)
end F_ref14_in
end Go.Proofs.YtcpkhpboemfglaaGreatDoor


namespace Go.Proofs.YtcpkhpboemfglaaGreatDoor
open Go Go.Va Go.Proofs
/- chartulary/chartularyref14.Sound -/
namespace F_ref14_Sound
abbrev ia : List Ai := [.dat T_api_Entry]
abbrev io : List (Nat × Oi) := [(2, .dat .bool)]
abbrev R : Type := DOut ia io
noncomputable def X (n : Nat) : Ctx := ⟨⟨tab, [F_ref14_has.en n, F_ref05_Clamp.en n, F_ref06_Bucket.en n, F_ref14_in.en n, F_ref06_Key.en n, F_ref13_Good.en n, F_ref13_SameVersion.en n, F_ref12_Sound.en n, F_ref08_Sound.en n, F_ref12_Good.en n, F_ref14_Rules.en n, F_ref14_Grants.en n, F_ref14_Part.en n], 0, []⟩, 231, bnOf 0 ia⟩
abbrev g1 : List Si := [.ref 1 1 T_api_Entry, .dat 3 .str, .box 1 (.d T_api_Entry)]
abbrev g2 : List Si := [.ref 1 1 T_api_Entry, .dat 3 .str, .box 1 (.d T_api_Entry)]
abbrev g3 : List Si := [.ref 1 1 T_api_Entry, .dat 3 .str, .ref 4 4 T_api_Version, .dat 5 .bool, .box 1 (.d T_api_Entry), .box 4 (.p (.d (.int .u64)) (.p (.d .bool) (.p (.d (.int .i64)) (.p (.d (.int .u64)) (.p (.d (.arr 32 (.int .u8))) (.p (.d (.int .i64)) (.p (.d T_api_Lock) (.p (.r 100000000004000 T_api_Tag) (.d .unit)))))))))]
abbrev g4 : List Si := [.ref 1 1 T_api_Entry, .dat 3 .str, .ref 4 4 T_api_Version, .dat 5 .bool, .box 1 (.d T_api_Entry), .box 4 (.p (.d (.int .u64)) (.p (.d .bool) (.p (.d (.int .i64)) (.p (.d (.int .u64)) (.p (.d (.arr 32 (.int .u8))) (.p (.d (.int .i64)) (.p (.d T_api_Lock) (.p (.r 100000000004000 T_api_Tag) (.d .unit)))))))))]
abbrev g5 : List Si := [.ref 1 1 T_api_Entry, .dat 3 .str, .dat 5 .bool, .box 1 (.d T_api_Entry)]
abbrev g6 : List Si := [.ref 1 1 T_api_Entry, .dat 3 .str, .dat 5 .bool, .box 1 (.d T_api_Entry)]
abbrev g7 : List Si := [.ref 1 1 T_api_Entry, .dat 3 .str, .dat 5 .bool, .box 1 (.d T_api_Entry)]
abbrev g8 : List Si := [.ref 1 1 T_api_Entry, .dat 3 .str, .dat 5 .bool, .box 1 (.d T_api_Entry)]
abbrev g9 : List Si := [.ref 1 1 T_api_Entry, .dat 3 .str, .dat 5 .bool, .box 1 (.d T_api_Entry)]
abbrev g10 : List Si := [.ref 1 1 T_api_Entry, .dat 3 .str, .dat 5 .bool, .box 1 (.d T_api_Entry)]
noncomputable def T : CT := (.s .o (.s .o (.s .o (.r g1 (.s .o (.r g2 (.s .o (.s .o (.r g3 (.s .o (.r g4 (.s .o (.r g5 (.s .o (.r g6 (.s .o (.r g7 (.s .o (.r g8 (.s .o (.r g9 (.s .o (.r g10 .o)))))))))))))))))))))))
noncomputable def J1 (n : Nat) : ByteArray × D_api_Entry × Unit → Option R := jR (X n) n T (bodyOf Tryz.f17) (endK ia io) g1 [1, 1, 1] []
noncomputable def J2 (n : Nat) : ByteArray × D_api_Entry × Unit → Option R := jR (X n) n T (bodyOf Tryz.f17) (endK ia io) g2 [1, 1, 1, 1] []
noncomputable def J3 (n : Nat) : ByteArray × Bool × D_api_Entry × D_api_Version × Unit → Option R := jR (X n) n T (bodyOf Tryz.f17) (endK ia io) g3 [1, 1, 1, 1, 1, 1] []
noncomputable def J4 (n : Nat) : ByteArray × Bool × D_api_Entry × D_api_Version × Unit → Option R := jR (X n) n T (bodyOf Tryz.f17) (endK ia io) g4 [1, 1, 1, 1, 1, 1, 1] []
noncomputable def J5 (n : Nat) : ByteArray × Bool × D_api_Entry × Unit → Option R := jR (X n) n T (bodyOf Tryz.f17) (endK ia io) g5 [1, 1, 1, 1, 1, 1, 1, 1] []
noncomputable def J6 (n : Nat) : ByteArray × Bool × D_api_Entry × Unit → Option R := jR (X n) n T (bodyOf Tryz.f17) (endK ia io) g6 [1, 1, 1, 1, 1, 1, 1, 1, 1] []
noncomputable def J7 (n : Nat) : ByteArray × Bool × D_api_Entry × Unit → Option R := jR (X n) n T (bodyOf Tryz.f17) (endK ia io) g7 [1, 1, 1, 1, 1, 1, 1, 1, 1, 1] []
noncomputable def J8 (n : Nat) : ByteArray × Bool × D_api_Entry × Unit → Option R := jR (X n) n T (bodyOf Tryz.f17) (endK ia io) g8 [1, 1, 1, 1, 1, 1, 1, 1, 1, 1, 1] []
noncomputable def J9 (n : Nat) : ByteArray × Bool × D_api_Entry × Unit → Option R := jR (X n) n T (bodyOf Tryz.f17) (endK ia io) g9 [1, 1, 1, 1, 1, 1, 1, 1, 1, 1, 1, 1] []
noncomputable def J10 (n : Nat) : ByteArray × Bool × D_api_Entry × Unit → Option R := jR (X n) n T (bodyOf Tryz.f17) (endK ia io) g10 [1, 1, 1, 1, 1, 1, 1, 1, 1, 1, 1, 1, 1] []
noncomputable def f (n : Nat) (t : D_api_Entry) : Option R := fRun (X n) n T Tryz.f17 ia io (t, ())
theorem e0 (n : Nat) (t : D_api_Entry) : f n t =
  bnd (F_ref14_has.f n t.1) fun u1 =>
  bIf ((hide (eqS u1.1 (⟨#[]⟩ : ByteArray)))) (
    some (false, ())
    ) (
    bnd (F_ref05_Clamp.f n t.2.1) fun u2 =>
    bIf ((hide (u2.1 != t.2.1))) (
      some (false, ())
      ) (
      J1 n (u1.1, t, ())
      )
    ) := (hideF_eq _).trans (by kernel_rfl)
theorem e1 (n : Nat) (r : ByteArray) (o : D_api_Entry) : J1 n (r, o, ()) =
  bIf ((hide (o.1 == (1 : Int)))) (
    bIf ((hide (!eqS o.2.2.1 (⟨#[]⟩ : ByteArray)))) (
      some (false, ())
      ) (
      bIf ((hide (o.1 != (1 : Int)))) (
        bnd (F_ref06_Bucket.f n o.2.2.1) fun u1 =>
        bIf ((!u1.1)) (
          some (false, ())
          ) (
          J2 n (r, o, ())
          )
        ) (
        J2 n (r, o, ())
        )
      )
    ) (
    bIf ((hide (o.1 != (1 : Int)))) (
      bnd (F_ref06_Bucket.f n o.2.2.1) fun u2 =>
      bIf ((!u2.1)) (
        some (false, ())
        ) (
        J2 n (r, o, ())
        )
      ) (
      J2 n (r, o, ())
      )
    ) := (hideF_eq _).trans (by kernel_rfl)
theorem e2 (n : Nat) (r : ByteArray) (o : D_api_Entry) : J2 n (r, o, ()) =
  bnd (F_ref14_in.f n r 107) fun u1 =>
  bIf (u1.1) (
    bnd (F_ref06_Key.f n o.2.2.2.1) fun u2 =>
    bIf (u2.1) (
      J3 n (r, true, o, (0, (false, (0, (0, ((List.replicate 32 0), (0, ((0, (0, (false, ()))), ([], ())))))))), ())
      ) (
      bnd (F_ref14_in.f n r 107) fun u3 =>
      bIf ((!u3.1)) (
        J3 n (r, (hide (eqS o.2.2.2.1 (⟨#[]⟩ : ByteArray))), o, (0, (false, (0, (0, ((List.replicate 32 0), (0, ((0, (0, (false, ()))), ([], ())))))))), ())
        ) (
        J3 n (r, false, o, (0, (false, (0, (0, ((List.replicate 32 0), (0, ((0, (0, (false, ()))), ([], ())))))))), ())
        )
      )
    ) (
    bnd (F_ref14_in.f n r 107) fun u4 =>
    bIf ((!u4.1)) (
      J3 n (r, (hide (eqS o.2.2.2.1 (⟨#[]⟩ : ByteArray))), o, (0, (false, (0, (0, ((List.replicate 32 0), (0, ((0, (0, (false, ()))), ([], ())))))))), ())
      ) (
      J3 n (r, false, o, (0, (false, (0, (0, ((List.replicate 32 0), (0, ((0, (0, (false, ()))), ([], ())))))))), ())
      )
    ) := (hideF_eq _).trans (by kernel_rfl)
theorem e3 (n : Nat) (r : ByteArray) (a : Bool) (o : D_api_Entry) (r' : D_api_Version) : J3 n (r, a, o, r', ()) =
  bIf (a) (
    bnd (F_ref14_in.f n r 105) fun u1 =>
    bIf (u1.1) (
      bIf ((hide (decide (o.2.2.2.2.1 ≥ (1 : Int))))) (
        J4 n (r, true, o, (r'.1, (r'.2.1, (r'.2.2.1, (r'.2.2.2.1, (r'.2.2.2.2.1, (r'.2.2.2.2.2.1, (r'.2.2.2.2.2.2.1, (r'.2.2.2.2.2.2.2.1, r'.2.2.2.2.2.2.2.2)))))))), ())
        ) (
        bnd (F_ref14_in.f n r 105) fun u2 =>
        bIf ((!u2.1)) (
          J4 n (r, (hide (o.2.2.2.2.1 == (0 : Int))), o, (r'.1, (r'.2.1, (r'.2.2.1, (r'.2.2.2.1, (r'.2.2.2.2.1, (r'.2.2.2.2.2.1, (r'.2.2.2.2.2.2.1, (r'.2.2.2.2.2.2.2.1, r'.2.2.2.2.2.2.2.2)))))))), ())
          ) (
          J4 n (r, false, o, (r'.1, (r'.2.1, (r'.2.2.1, (r'.2.2.2.1, (r'.2.2.2.2.1, (r'.2.2.2.2.2.1, (r'.2.2.2.2.2.2.1, (r'.2.2.2.2.2.2.2.1, r'.2.2.2.2.2.2.2.2)))))))), ())
          )
        )
      ) (
      bnd (F_ref14_in.f n r 105) fun u3 =>
      bIf ((!u3.1)) (
        J4 n (r, (hide (o.2.2.2.2.1 == (0 : Int))), o, (r'.1, (r'.2.1, (r'.2.2.1, (r'.2.2.2.1, (r'.2.2.2.2.1, (r'.2.2.2.2.2.1, (r'.2.2.2.2.2.2.1, (r'.2.2.2.2.2.2.2.1, r'.2.2.2.2.2.2.2.2)))))))), ())
        ) (
        J4 n (r, false, o, (r'.1, (r'.2.1, (r'.2.2.1, (r'.2.2.2.1, (r'.2.2.2.2.1, (r'.2.2.2.2.2.1, (r'.2.2.2.2.2.2.1, (r'.2.2.2.2.2.2.2.1, r'.2.2.2.2.2.2.2.2)))))))), ())
        )
      )
    ) (
    J4 n (r, false, o, (r'.1, (r'.2.1, (r'.2.2.1, (r'.2.2.2.1, (r'.2.2.2.2.1, (r'.2.2.2.2.2.1, (r'.2.2.2.2.2.2.1, (r'.2.2.2.2.2.2.2.1, r'.2.2.2.2.2.2.2.2)))))))), ())
    ) := (hideF_eq _).trans (by kernel_rfl)
theorem e4 (n : Nat) (r : ByteArray) (a : Bool) (o : D_api_Entry) (r' : D_api_Version) : J4 n (r, a, o, r', ()) =
  bIf (a) (
    bnd (F_ref14_in.f n r 118) fun u1 =>
    bIf (u1.1) (
      bnd (F_ref13_Good.f n o.2.2.2.2.2.1) fun u2 =>
      bIf (u2.1) (
        bIf ((hide (o.2.2.2.2.2.1.2.2.2.2.2.1 == o.2.1))) (
          J5 n (r, true, o, ())
          ) (
          bnd (F_ref14_in.f n r 118) fun u3 =>
          bIf ((!u3.1)) (
            bnd (F_ref13_SameVersion.f n o.2.2.2.2.2.1 (r'.1, (r'.2.1, (r'.2.2.1, (r'.2.2.2.1, (r'.2.2.2.2.1, (r'.2.2.2.2.2.1, (r'.2.2.2.2.2.2.1, (r'.2.2.2.2.2.2.2.1, r'.2.2.2.2.2.2.2.2))))))))) fun u4 =>
            J5 n (r, u4.1, o, ())
            ) (
            J5 n (r, false, o, ())
            )
          )
        ) (
        bnd (F_ref14_in.f n r 118) fun u5 =>
        bIf ((!u5.1)) (
          bnd (F_ref13_SameVersion.f n o.2.2.2.2.2.1 (r'.1, (r'.2.1, (r'.2.2.1, (r'.2.2.2.1, (r'.2.2.2.2.1, (r'.2.2.2.2.2.1, (r'.2.2.2.2.2.2.1, (r'.2.2.2.2.2.2.2.1, r'.2.2.2.2.2.2.2.2))))))))) fun u6 =>
          J5 n (r, u6.1, o, ())
          ) (
          J5 n (r, false, o, ())
          )
        )
      ) (
      bnd (F_ref14_in.f n r 118) fun u7 =>
      bIf ((!u7.1)) (
        bnd (F_ref13_SameVersion.f n o.2.2.2.2.2.1 (r'.1, (r'.2.1, (r'.2.2.1, (r'.2.2.2.1, (r'.2.2.2.2.1, (r'.2.2.2.2.2.1, (r'.2.2.2.2.2.2.1, (r'.2.2.2.2.2.2.2.1, r'.2.2.2.2.2.2.2.2))))))))) fun u8 =>
        J5 n (r, u8.1, o, ())
        ) (
        J5 n (r, false, o, ())
        )
      )
    ) (
    J5 n (r, false, o, ())
    ) := (hideF_eq _).trans (by kernel_rfl)
theorem e5 (n : Nat) (r : ByteArray) (a : Bool) (o : D_api_Entry) : J5 n (r, a, o, ()) =
  bIf (a) (
    bnd (F_ref14_in.f n r 108) fun u1 =>
    bIf (u1.1) (
      bnd (F_ref12_Sound.f n o.2.2.2.2.2.2.1) fun u2 =>
      bIf (u2.1) (
        J6 n (r, true, o, ())
        ) (
        bnd (F_ref14_in.f n r 108) fun u3 =>
        bIf ((!u3.1)) (
          J6 n (r, (hide (eqD T_api_Lock o.2.2.2.2.2.2.1 (0, (0, (false, ()))))), o, ())
          ) (
          J6 n (r, false, o, ())
          )
        )
      ) (
      bnd (F_ref14_in.f n r 108) fun u4 =>
      bIf ((!u4.1)) (
        J6 n (r, (hide (eqD T_api_Lock o.2.2.2.2.2.2.1 (0, (0, (false, ()))))), o, ())
        ) (
        J6 n (r, false, o, ())
        )
      )
    ) (
    J6 n (r, false, o, ())
    ) := (hideF_eq _).trans (by kernel_rfl)
theorem e6 (n : Nat) (r : ByteArray) (a : Bool) (o : D_api_Entry) : J6 n (r, a, o, ()) =
  bIf (a) (
    bnd (F_ref14_in.f n r 116) fun u1 =>
    bIf (u1.1) (
      bnd (F_ref08_Sound.f n o.2.2.2.2.2.2.2.1) fun u2 =>
      bIf (u2.1) (
        J7 n (r, true, o, ())
        ) (
        bnd (F_ref14_in.f n r 116) fun u3 =>
        bIf ((!u3.1)) (
          J7 n (r, (hide (((o.2.2.2.2.2.2.2.1.length : Nat) : Int) == (0 : Int))), o, ())
          ) (
          J7 n (r, false, o, ())
          )
        )
      ) (
      bnd (F_ref14_in.f n r 116) fun u4 =>
      bIf ((!u4.1)) (
        J7 n (r, (hide (((o.2.2.2.2.2.2.2.1.length : Nat) : Int) == (0 : Int))), o, ())
        ) (
        J7 n (r, false, o, ())
        )
      )
    ) (
    J7 n (r, false, o, ())
    ) := (hideF_eq _).trans (by kernel_rfl)
theorem e7 (n : Nat) (r : ByteArray) (a : Bool) (o : D_api_Entry) : J7 n (r, a, o, ()) =
  bIf (a) (
    bnd (F_ref14_in.f n r 100) fun u1 =>
    bIf (u1.1) (
      bnd (F_ref12_Good.f n o.2.2.2.2.2.2.2.2.1) fun u2 =>
      bIf (u2.1) (
        J8 n (r, true, o, ())
        ) (
        bnd (F_ref14_in.f n r 100) fun u3 =>
        bIf ((!u3.1)) (
          J8 n (r, (hide (eqD T_api_Default o.2.2.2.2.2.2.2.2.1 (0, (0, ())))), o, ())
          ) (
          J8 n (r, false, o, ())
          )
        )
      ) (
      bnd (F_ref14_in.f n r 100) fun u4 =>
      bIf ((!u4.1)) (
        J8 n (r, (hide (eqD T_api_Default o.2.2.2.2.2.2.2.2.1 (0, (0, ())))), o, ())
        ) (
        J8 n (r, false, o, ())
        )
      )
    ) (
    J8 n (r, false, o, ())
    ) := (hideF_eq _).trans (by kernel_rfl)
theorem e8 (n : Nat) (r : ByteArray) (a : Bool) (o : D_api_Entry) : J8 n (r, a, o, ()) =
  bIf (a) (
    bnd (F_ref14_in.f n r 114) fun u1 =>
    bIf (u1.1) (
      bnd (F_ref14_Rules.f n o.2.2.2.2.2.2.2.2.2.1) fun u2 =>
      bIf (u2.1) (
        J9 n (r, true, o, ())
        ) (
        bnd (F_ref14_in.f n r 114) fun u3 =>
        bIf ((!u3.1)) (
          J9 n (r, (hide (((o.2.2.2.2.2.2.2.2.2.1.length : Nat) : Int) == (0 : Int))), o, ())
          ) (
          J9 n (r, false, o, ())
          )
        )
      ) (
      bnd (F_ref14_in.f n r 114) fun u4 =>
      bIf ((!u4.1)) (
        J9 n (r, (hide (((o.2.2.2.2.2.2.2.2.2.1.length : Nat) : Int) == (0 : Int))), o, ())
        ) (
        J9 n (r, false, o, ())
        )
      )
    ) (
    J9 n (r, false, o, ())
    ) := (hideF_eq _).trans (by kernel_rfl)
theorem e9 (n : Nat) (r : ByteArray) (a : Bool) (o : D_api_Entry) : J9 n (r, a, o, ()) =
  bIf (a) (
    bnd (F_ref14_in.f n r 103) fun u1 =>
    bIf (u1.1) (
      bnd (F_ref14_Grants.f n o.2.2.2.2.2.2.2.2.2.2.1) fun u2 =>
      bIf (u2.1) (
        J10 n (r, true, o, ())
        ) (
        bnd (F_ref14_in.f n r 103) fun u3 =>
        bIf ((!u3.1)) (
          J10 n (r, (hide (((o.2.2.2.2.2.2.2.2.2.2.1.length : Nat) : Int) == (0 : Int))), o, ())
          ) (
          J10 n (r, false, o, ())
          )
        )
      ) (
      bnd (F_ref14_in.f n r 103) fun u4 =>
      bIf ((!u4.1)) (
        J10 n (r, (hide (((o.2.2.2.2.2.2.2.2.2.2.1.length : Nat) : Int) == (0 : Int))), o, ())
        ) (
        J10 n (r, false, o, ())
        )
      )
    ) (
    J10 n (r, false, o, ())
    ) := (hideF_eq _).trans (by kernel_rfl)
theorem e10 (n : Nat) (r : ByteArray) (a : Bool) (o : D_api_Entry) : J10 n (r, a, o, ()) =
  bIf (a) (
    bnd (F_ref14_in.f n r 112) fun u1 =>
    bIf (u1.1) (
      bnd (F_ref14_Part.f n o.2.2.2.2.2.2.2.2.2.2.2.1) fun u2 =>
      bIf (u2.1) (
        some (true, ())
        ) (
        bnd (F_ref14_in.f n r 112) fun u3 =>
        bIf ((!u3.1)) (
          some ((hide (eqD T_api_Part o.2.2.2.2.2.2.2.2.2.2.2.1 (0, (0, (0, ((List.replicate 32 0), ())))))), ())
          ) (
          some (false, ())
          )
        )
      ) (
      bnd (F_ref14_in.f n r 112) fun u4 =>
      bIf ((!u4.1)) (
        some ((hide (eqD T_api_Part o.2.2.2.2.2.2.2.2.2.2.2.1 (0, (0, (0, ((List.replicate 32 0), ())))))), ())
        ) (
        some (false, ())
        )
      )
    ) (
    some (false, ())
    ) := (hideF_eq _).trans (by kernel_rfl)
theorem phi (n : Nat) : ∀ e ∈ (X n).c.Φ, EntryOk Tryz.prog e := allE_cons (mkEntry_ok (F_ref14_has.ok n)) (allE_cons (mkEntry_ok (F_ref05_Clamp.ok n)) (allE_cons (mkEntry_ok (F_ref06_Bucket.ok n)) (allE_cons (mkEntry_ok (F_ref14_in.ok n)) (allE_cons (mkEntry_ok (F_ref06_Key.ok n)) (allE_cons (mkEntry_ok (F_ref13_Good.ok n)) (allE_cons (mkEntry_ok (F_ref13_SameVersion.ok n)) (allE_cons (mkEntry_ok (F_ref12_Sound.ok n)) (allE_cons (mkEntry_ok (F_ref08_Sound.ok n)) (allE_cons (mkEntry_ok (F_ref12_Good.ok n)) (allE_cons (mkEntry_ok (F_ref14_Rules.ok n)) (allE_cons (mkEntry_ok (F_ref14_Grants.ok n)) (allE_cons (mkEntry_ok (F_ref14_Part.ok n)) (allE_nil)))))))))))))
theorem ok (n : Nat) : FnOk Tryz.prog 17 ia io (fRun (X n) n T Tryz.f17 ia io) := tree_ok mixed tabIs (phi n) Tryz.func17 (by kernel_rfl) rfl
noncomputable def en (n : Nat) : Entry := mkEntry 17 ia io (fRun (X n) n T Tryz.f17 ia io)
end F_ref14_Sound
end Go.Proofs.YtcpkhpboemfglaaGreatDoor


namespace Go.Proofs.YtcpkhpboemfglaaGreatDoor
open Go Go.Va Go.Proofs
/- chartulary/chartularyref14.SameGrants -/
namespace F_ref14_SameGrants
abbrev ia : List Ai := [.dat (.slice T_api_Grant), .dat (.slice T_api_Grant)]
abbrev io : List (Nat × Oi) := [(4, .dat .bool)]
abbrev R : Type := DOut ia io
noncomputable def X (n : Nat) : Ctx := ⟨⟨tab, [], 0, []⟩, 26, bnOf 0 ia⟩
abbrev g1 : List Si := [.dat 0 (.slice T_api_Grant), .dat 1 (.slice T_api_Grant), .dat 5 (.int .i64)]
abbrev g2 : List Si := []
noncomputable def T : CT := (.s .o (.s .o (.s (.s .o (.b (.l g1 .o))) (.r g2 .o))))
noncomputable def J1 (n : Nat) (m : Nat) : (List (D_api_Grant)) × (List (D_api_Grant)) × Int × Unit → Option R := jL (X n) n T (bodyOf Tryz.f64) (endK ia io) g1 [1, 1, 0, 1, 0] [] m
noncomputable def J2 (n : Nat) : Unit → Option R := jR (X n) n T (bodyOf Tryz.f64) (endK ia io) g2 [1, 1, 1] []
noncomputable def f (n : Nat) (a : List (D_api_Grant)) (b : List (D_api_Grant)) : Option R := fRun (X n) n T Tryz.f64 ia io (a, b, ())
theorem e0 (n : Nat) (a : List (D_api_Grant)) (b : List (D_api_Grant)) : f n a b =
  bIf ((hide (((a.length : Nat) : Int) != ((b.length : Nat) : Int)))) (
    some (false, ())
    ) (
    J1 n n (a, b, 0, ())
    ) := (hideF_eq _).trans (by kernel_rfl)
theorem e1 (n m : Nat) (a : List (D_api_Grant)) (b : List (D_api_Grant)) (i : Int) : J1 n (m + 1) (a, b, i, ()) =
  bIf ((hide (decide (i < ((a.length : Nat) : Int))))) (
    gIf (0 ≤ i ∧ i < ((a.length : Nat) : Int)) (
      gIf (0 ≤ i ∧ i < ((b.length : Nat) : Int)) (
        bIf ((hide (!(eqD T_api_Grant (List.getD a i.toNat (Va.dflt T_api_Grant)) (List.getD b i.toNat (Va.dflt T_api_Grant)))))) (
          some (false, ())
          ) (
          J1 n m (a, b, (IntKind.i64.wrap (i + (1 : Int))), ())
          )
        )
      )
    ) (
    J2 n (())
    ) := (hideF_eq _).trans (by kernel_rfl)
theorem e2 (n : Nat) : J2 n (()) =
  some (true, ()) := (hideF_eq _).trans (by kernel_rfl)
theorem phi (n : Nat) : ∀ e ∈ (X n).c.Φ, EntryOk Tryz.prog e := allE_nil
theorem ok (n : Nat) : FnOk Tryz.prog 64 ia io (fRun (X n) n T Tryz.f64 ia io) := tree_ok mixed tabIs (phi n) Tryz.func64 (by kernel_rfl) rfl
noncomputable def en (n : Nat) : Entry := mkEntry 64 ia io (fRun (X n) n T Tryz.f64 ia io)
end F_ref14_SameGrants
end Go.Proofs.YtcpkhpboemfglaaGreatDoor


namespace Go.Proofs.YtcpkhpboemfglaaGreatDoor
open Go Go.Va Go.Proofs
/- chartulary/chartularyref14.SameRules -/
namespace F_ref14_SameRules
abbrev ia : List Ai := [.dat (.slice T_api_Rule), .dat (.slice T_api_Rule)]
abbrev io : List (Nat × Oi) := [(4, .dat .bool)]
abbrev R : Type := DOut ia io
noncomputable def X (n : Nat) : Ctx := ⟨⟨tab, [F_ref08_Same.en n], 0, []⟩, 81, bnOf 0 ia⟩
abbrev g1 : List Si := [.dat 0 (.slice T_api_Rule), .dat 1 (.slice T_api_Rule), .dat 5 (.int .i64)]
abbrev g2 : List Si := [.dat 0 (.slice T_api_Rule), .dat 1 (.slice T_api_Rule), .dat 5 (.int .i64)]
abbrev g3 : List Si := []
noncomputable def T : CT := (.s .o (.s .o (.s (.s .o (.b (.l g1 (.s .o (.s .o (.r g2 .o)))))) (.r g3 .o))))
noncomputable def J1 (n : Nat) (m : Nat) : (List (D_api_Rule)) × (List (D_api_Rule)) × Int × Unit → Option R := jL (X n) n T (bodyOf Tryz.f63) (endK ia io) g1 [1, 1, 0, 1, 0] [] m
noncomputable def J2 (n m1 : Nat) : (List (D_api_Rule)) × (List (D_api_Rule)) × Int × Unit → Option R := jR (X n) n T (bodyOf Tryz.f63) (endK ia io) g2 [1, 1, 0, 1, 0, 0, 1, 1] [m1]
noncomputable def J3 (n : Nat) : Unit → Option R := jR (X n) n T (bodyOf Tryz.f63) (endK ia io) g3 [1, 1, 1] []
noncomputable def f (n : Nat) (a : List (D_api_Rule)) (b : List (D_api_Rule)) : Option R := fRun (X n) n T Tryz.f63 ia io (a, b, ())
theorem e0 (n : Nat) (a : List (D_api_Rule)) (b : List (D_api_Rule)) : f n a b =
  bIf ((hide (((a.length : Nat) : Int) != ((b.length : Nat) : Int)))) (
    some (false, ())
    ) (
    J1 n n (a, b, 0, ())
    ) := (hideF_eq _).trans (by kernel_rfl)
theorem e1 (n m : Nat) (a : List (D_api_Rule)) (b : List (D_api_Rule)) (i : Int) : J1 n (m + 1) (a, b, i, ()) =
  bIf ((hide (decide (i < ((a.length : Nat) : Int))))) (
    gIf (0 ≤ i ∧ i < ((a.length : Nat) : Int)) (
      gIf (0 ≤ i ∧ i < ((b.length : Nat) : Int)) (
        bIf ((hide (!eqS ((List.getD a i.toNat (Va.dflt T_api_Rule)).1) ((List.getD b i.toNat (Va.dflt T_api_Rule)).1)))) (
          some (false, ())
          ) (
          gIf (0 ≤ i ∧ i < ((a.length : Nat) : Int)) (
            gIf (0 ≤ i ∧ i < ((b.length : Nat) : Int)) (
              bnd (F_ref08_Same.f n (((List.getD a i.toNat (Va.dflt T_api_Rule)).2).1) (((List.getD b i.toNat (Va.dflt T_api_Rule)).2).1)) fun u1 =>
              bIf ((!u1.1)) (
                some (false, ())
                ) (
                gIf (0 ≤ i ∧ i < ((a.length : Nat) : Int)) (
                  gIf (0 ≤ i ∧ i < ((b.length : Nat) : Int)) (
                    bIf ((hide (((((List.getD a i.toNat (Va.dflt T_api_Rule)).2).2).1) != ((((List.getD b i.toNat (Va.dflt T_api_Rule)).2).2).1)))) (
                      some (false, ())
                      ) (
                      gIf (0 ≤ i ∧ i < ((a.length : Nat) : Int)) (
                        gIf (0 ≤ i ∧ i < ((b.length : Nat) : Int)) (
                          bIf ((hide ((((((List.getD a i.toNat (Va.dflt T_api_Rule)).2).2).2).1) != (((((List.getD b i.toNat (Va.dflt T_api_Rule)).2).2).2).1)))) (
                            some (false, ())
                            ) (
                            gIf (0 ≤ i ∧ i < ((a.length : Nat) : Int)) (
                              gIf (0 ≤ i ∧ i < ((b.length : Nat) : Int)) (
                                bIf ((hide (!(((((((List.getD a i.toNat (Va.dflt T_api_Rule)).2).2).2).2).1) == ((((((List.getD b i.toNat (Va.dflt T_api_Rule)).2).2).2).2).1))))) (
                                  some (false, ())
                                  ) (
                                  J2 n m (a, b, i, ())
                                  )
                                )
                              )
                            )
                          )
                        )
                      )
                    )
                  )
                )
              )
            )
          )
        )
      )
    ) (
    J3 n (())
    ) := (hideF_eq _).trans (by kernel_rfl)
theorem e2 (n m1 : Nat) (a : List (D_api_Rule)) (b : List (D_api_Rule)) (i : Int) : J2 n m1 (a, b, i, ()) =
  J1 n m1 (a, b, (IntKind.i64.wrap (i + (1 : Int))), ()) := (hideF_eq _).trans (by kernel_rfl)
theorem e3 (n : Nat) : J3 n (()) =
  some (true, ()) := (hideF_eq _).trans (by kernel_rfl)
theorem phi (n : Nat) : ∀ e ∈ (X n).c.Φ, EntryOk Tryz.prog e := allE_cons (mkEntry_ok (F_ref08_Same.ok n)) (allE_nil)
theorem ok (n : Nat) : FnOk Tryz.prog 63 ia io (fRun (X n) n T Tryz.f63 ia io) := tree_ok mixed tabIs (phi n) Tryz.func63 (by kernel_rfl) rfl
noncomputable def en (n : Nat) : Entry := mkEntry 63 ia io (fRun (X n) n T Tryz.f63 ia io)
end F_ref14_SameRules
end Go.Proofs.YtcpkhpboemfglaaGreatDoor


namespace Go.Proofs.YtcpkhpboemfglaaGreatDoor
open Go Go.Va Go.Proofs
/- chartulary/chartularyref14.Same -/
namespace F_ref14_Same
abbrev ia : List Ai := [.dat T_api_Entry, .dat T_api_Entry]
abbrev io : List (Nat × Oi) := [(4, .dat .bool)]
abbrev R : Type := DOut ia io
noncomputable def X (n : Nat) : Ctx := ⟨⟨tab, [F_ref13_SameVersion.en n, F_ref08_Same.en n, F_ref14_SameRules.en n, F_ref14_SameGrants.en n], 0, []⟩, 85, bnOf 0 ia⟩
abbrev g1 : List Si := [.ref 2 2 T_api_Entry, .ref 3 3 T_api_Entry, .box 2 (.d T_api_Entry), .box 3 (.d T_api_Entry)]
noncomputable def T : CT := (.s .o (.s .o (.r g1 .o)))
noncomputable def J1 (n : Nat) : D_api_Entry × D_api_Entry × Unit → Option R := jR (X n) n T (bodyOf Tryz.f19) (endK ia io) g1 [1, 1] []
noncomputable def f (n : Nat) (a : D_api_Entry) (b : D_api_Entry) : Option R := fRun (X n) n T Tryz.f19 ia io (a, b, ())
theorem e0 (n : Nat) (a : D_api_Entry) (b : D_api_Entry) : f n a b =
  bIf ((hide (a.1 != b.1))) (
    some (false, ())
    ) (
    bIf ((hide (a.2.1 != b.2.1))) (
      some (false, ())
      ) (
      bIf ((hide (!eqS a.2.2.1 b.2.2.1))) (
        some (false, ())
        ) (
        bIf ((hide (!eqS a.2.2.2.1 b.2.2.2.1))) (
          some (false, ())
          ) (
          bIf ((hide (a.2.2.2.2.1 != b.2.2.2.2.1))) (
            some (false, ())
            ) (
            bIf ((hide (!(eqD T_api_Lock a.2.2.2.2.2.2.1 b.2.2.2.2.2.2.1)))) (
              some (false, ())
              ) (
              bIf ((hide (!(eqD T_api_Default a.2.2.2.2.2.2.2.2.1 b.2.2.2.2.2.2.2.2.1)))) (
                some (false, ())
                ) (
                bIf ((hide (!(eqD T_api_Part a.2.2.2.2.2.2.2.2.2.2.2.1 b.2.2.2.2.2.2.2.2.2.2.2.1)))) (
                  some (false, ())
                  ) (
                  J1 n (a, b, ())
                  )
                )
              )
            )
          )
        )
      )
    ) := (hideF_eq _).trans (by kernel_rfl)
theorem e1 (n : Nat) (a : D_api_Entry) (b : D_api_Entry) : J1 n (a, b, ()) =
  bnd (F_ref13_SameVersion.f n a.2.2.2.2.2.1 b.2.2.2.2.2.1) fun u1 =>
  bIf (u1.1) (
    bnd (F_ref08_Same.f n a.2.2.2.2.2.2.2.1 b.2.2.2.2.2.2.2.1) fun u2 =>
    bIf (u2.1) (
      bnd (F_ref14_SameRules.f n a.2.2.2.2.2.2.2.2.2.1 b.2.2.2.2.2.2.2.2.2.1) fun u3 =>
      bIf (u3.1) (
        bnd (F_ref14_SameGrants.f n a.2.2.2.2.2.2.2.2.2.2.1 b.2.2.2.2.2.2.2.2.2.2.1) fun u4 =>
        some (u4.1, ())
        ) (
        some (false, ())
        )
      ) (
      some (false, ())
      )
    ) (
    some (false, ())
    ) := (hideF_eq _).trans (by kernel_rfl)
theorem phi (n : Nat) : ∀ e ∈ (X n).c.Φ, EntryOk Tryz.prog e := allE_cons (mkEntry_ok (F_ref13_SameVersion.ok n)) (allE_cons (mkEntry_ok (F_ref08_Same.ok n)) (allE_cons (mkEntry_ok (F_ref14_SameRules.ok n)) (allE_cons (mkEntry_ok (F_ref14_SameGrants.ok n)) (allE_nil))))
theorem ok (n : Nat) : FnOk Tryz.prog 19 ia io (fRun (X n) n T Tryz.f19 ia io) := tree_ok mixed tabIs (phi n) Tryz.func19 (by kernel_rfl) rfl
noncomputable def en (n : Nat) : Entry := mkEntry 19 ia io (fRun (X n) n T Tryz.f19 ia io)
end F_ref14_Same
end Go.Proofs.YtcpkhpboemfglaaGreatDoor


namespace Go.Proofs.YtcpkhpboemfglaaGreatDoor
open Go Go.Va Go.Proofs
/- chartulary/chartularyref14.All -/
namespace F_ref14_All
abbrev ia : List Ai := [.dat (.slice T_api_Entry), .dat (.slice T_api_Entry)]
abbrev io : List (Nat × Oi) := [(4, .dat .bool)]
abbrev R : Type := DOut ia io
noncomputable def X (n : Nat) : Ctx := ⟨⟨tab, [F_ref14_Same.en n], 0, []⟩, 27, bnOf 0 ia⟩
abbrev g1 : List Si := [.dat 0 (.slice T_api_Entry), .dat 1 (.slice T_api_Entry), .dat 5 (.int .i64)]
abbrev g2 : List Si := []
noncomputable def T : CT := (.s .o (.s .o (.s (.s .o (.b (.l g1 .o))) (.r g2 .o))))
noncomputable def J1 (n : Nat) (m : Nat) : (List (D_api_Entry)) × (List (D_api_Entry)) × Int × Unit → Option R := jL (X n) n T (bodyOf Tryz.f21) (endK ia io) g1 [1, 1, 0, 1, 0] [] m
noncomputable def J2 (n : Nat) : Unit → Option R := jR (X n) n T (bodyOf Tryz.f21) (endK ia io) g2 [1, 1, 1] []
noncomputable def f (n : Nat) (a : List (D_api_Entry)) (b : List (D_api_Entry)) : Option R := fRun (X n) n T Tryz.f21 ia io (a, b, ())
theorem e0 (n : Nat) (a : List (D_api_Entry)) (b : List (D_api_Entry)) : f n a b =
  bIf ((hide (((a.length : Nat) : Int) != ((b.length : Nat) : Int)))) (
    some (false, ())
    ) (
    J1 n n (a, b, 0, ())
    ) := (hideF_eq _).trans (by kernel_rfl)
theorem e1 (n m : Nat) (a : List (D_api_Entry)) (b : List (D_api_Entry)) (i : Int) : J1 n (m + 1) (a, b, i, ()) =
  bIf ((hide (decide (i < ((a.length : Nat) : Int))))) (
    gIf (0 ≤ i ∧ i < ((a.length : Nat) : Int)) (
      gIf (0 ≤ i ∧ i < ((b.length : Nat) : Int)) (
        bnd (F_ref14_Same.f n (List.getD a i.toNat (Va.dflt T_api_Entry)) (List.getD b i.toNat (Va.dflt T_api_Entry))) fun u1 =>
        bIf ((!u1.1)) (
          some (false, ())
          ) (
          J1 n m (a, b, (IntKind.i64.wrap (i + (1 : Int))), ())
          )
        )
      )
    ) (
    J2 n (())
    ) := (hideF_eq _).trans (by kernel_rfl)
theorem e2 (n : Nat) : J2 n (()) =
  some (true, ()) := (hideF_eq _).trans (by kernel_rfl)
theorem phi (n : Nat) : ∀ e ∈ (X n).c.Φ, EntryOk Tryz.prog e := allE_cons (mkEntry_ok (F_ref14_Same.ok n)) (allE_nil)
theorem ok (n : Nat) : FnOk Tryz.prog 21 ia io (fRun (X n) n T Tryz.f21 ia io) := tree_ok mixed tabIs (phi n) Tryz.func21 (by kernel_rfl) rfl
noncomputable def en (n : Nat) : Entry := mkEntry 21 ia io (fRun (X n) n T Tryz.f21 ia io)
end F_ref14_All
end Go.Proofs.YtcpkhpboemfglaaGreatDoor


namespace Go.Proofs.YtcpkhpboemfglaaGreatDoor
open Go Go.Va Go.Proofs
/- chartulary/pack.New -/
namespace F_pack_New
abbrev ia : List Ai := []
abbrev io : List (Nat × Oi) := [(0, .new 0 (.p (.r 0 (.int .u8)) (.d .unit)))]
abbrev R : Type := DOut ia io
noncomputable def X (n : Nat) : Ctx := ⟨⟨tab, [], 0, []⟩, 3, bnOf 0 ia⟩
noncomputable def T : CT := .o
noncomputable def f (n : Nat) : Option R := fRun (X n) n T Tryz.f101 ia io (())
theorem e0 (n : Nat) : f n =
  some (([], ()), ()) := (hideF_eq _).trans (by kernel_rfl)
theorem phi (n : Nat) : ∀ e ∈ (X n).c.Φ, EntryOk Tryz.prog e := allE_nil
theorem ok (n : Nat) : FnOk Tryz.prog 101 ia io (fRun (X n) n T Tryz.f101 ia io) := tree_ok mixed tabIs (phi n) Tryz.func101 (by kernel_rfl) rfl
noncomputable def en (n : Nat) : Entry := mkEntry 101 ia io (fRun (X n) n T Tryz.f101 ia io)
end F_pack_New
end Go.Proofs.YtcpkhpboemfglaaGreatDoor


namespace Go.Proofs.YtcpkhpboemfglaaGreatDoor
open Go Go.Va Go.Proofs
/- chartulary/entry.NewWriter -/
namespace F_entry_NewWriter
abbrev ia : List Ai := []
abbrev io : List (Nat × Oi) := [(0, .newc 1 (.p (.r 0 (.int .u8)) (.d .unit)))]
abbrev R : Type := DOut ia io
noncomputable def X (n : Nat) : Ctx := ⟨⟨tab, [F_pack_New.en n], 0, []⟩, 3, bnOf 0 ia⟩
noncomputable def T : CT := .o
noncomputable def f (n : Nat) : Option R := fRun (X n) n T Tryz.f36 ia io (())
theorem e0 (n : Nat) : f n =
  bnd (F_pack_New.f n) fun u1 =>
  some ((u1.1.1, u1.1.2), ()) := (hideF_eq _).trans (by kernel_rfl)
theorem phi (n : Nat) : ∀ e ∈ (X n).c.Φ, EntryOk Tryz.prog e := allE_cons (mkEntry_ok (F_pack_New.ok n)) (allE_nil)
theorem ok (n : Nat) : FnOk Tryz.prog 36 ia io (fRun (X n) n T Tryz.f36 ia io) := tree_ok mixed tabIs (phi n) Tryz.func36 (by kernel_rfl) rfl
noncomputable def en (n : Nat) : Entry := mkEntry 36 ia io (fRun (X n) n T Tryz.f36 ia io)
end F_entry_NewWriter
end Go.Proofs.YtcpkhpboemfglaaGreatDoor


namespace Go.Proofs.YtcpkhpboemfglaaGreatDoor
open Go Go.Va Go.Proofs
/- chartulary/bits.Pack -/
namespace F_bits_Pack
abbrev ia : List Ai := [.dat (.int .u64)]
abbrev io : List (Nat × Oi) := [(2, .val (.r 0 (.int .u8)))]
abbrev R : Type := DOut ia io
noncomputable def X (n : Nat) : Ctx := ⟨⟨tab, [], 0, []⟩, 19, bnOf 0 ia⟩
abbrev g1 : List Si := [.dat 0 (.int .u64), .val 3 (.r 200300 (.int .u8))]
abbrev g2 : List Si := [.dat 0 (.int .u64), .val 3 (.r 200300 (.int .u8))]
noncomputable def T : CT := (.s .o (.s .o (.s (.b (.l g1 .o)) (.r g2 .o))))
noncomputable def J1 (n : Nat) (m : Nat) : Int × (List (Int)) × Unit → Option R := jL (X n) n T (bodyOf Tryz.f103) (endK ia io) g1 [1, 1, 0, 0] [] m
noncomputable def J2 (n : Nat) : Int × (List (Int)) × Unit → Option R := jR (X n) n T (bodyOf Tryz.f103) (endK ia io) g2 [1, 1, 1] []
noncomputable def f (n : Nat) (n_ : Int) : Option R := fRun (X n) n T Tryz.f103 ia io (n_, ())
theorem e0 (n : Nat) (n_ : Int) : f n n_ =
  J1 n n (n_, [], ()) := (hideF_eq _).trans (by kernel_rfl)
theorem e1 (n m : Nat) (n_ : Int) (out : List (Int)) : J1 n (m + 1) (n_, out, ()) =
  bIf ((hide (decide (n_ ≥ (128 : Int))))) (
    gIf ((out.length + 1) * 1 ≤ 70368744177664) (
      gNo ((7 : Int) < 0) (
        J1 n m ((shrI .u64 n_ 7), (out ++ ([(bitI .or .u8 (IntKind.u8.wrap n_) 128)] : List (Int))), ())
        )
      )
    ) (
    J2 n (n_, out, ())
    ) := (hideF_eq _).trans (by kernel_rfl)
theorem e2 (n : Nat) (n_ : Int) (out : List (Int)) : J2 n (n_, out, ()) =
  gIf ((out.length + 1) * 1 ≤ 70368744177664) (
    some ((out ++ ([(IntKind.u8.wrap n_)] : List (Int))), ())
    ) := (hideF_eq _).trans (by kernel_rfl)
theorem phi (n : Nat) : ∀ e ∈ (X n).c.Φ, EntryOk Tryz.prog e := allE_nil
theorem ok (n : Nat) : FnOk Tryz.prog 103 ia io (fRun (X n) n T Tryz.f103 ia io) := tree_ok mixed tabIs (phi n) Tryz.func103 (by kernel_rfl) rfl
noncomputable def en (n : Nat) : Entry := mkEntry 103 ia io (fRun (X n) n T Tryz.f103 ia io)
end F_bits_Pack
end Go.Proofs.YtcpkhpboemfglaaGreatDoor


namespace Go.Proofs.YtcpkhpboemfglaaGreatDoor
open Go Go.Va Go.Proofs
/- (*chartulary/pack.Writer).put -/
namespace F_pack_Writer_put
abbrev ia : List Ai := [.ptr (.p (.r 0 (.int .u8)) (.d .unit)), .dat (.slice (.int .u8))]
abbrev io : List (Nat × Oi) := [(4, .arg 0 500000 (.d T_pack_Writer))]
abbrev R : Type := DOut ia io
noncomputable def X (n : Nat) : Ctx := ⟨⟨tab, [], 0, []⟩, 17, bnOf 0 ia⟩
noncomputable def T : CT := .o
noncomputable def f (n : Nat) (w_ : D_pack_Writer) (b : List (Int)) : Option R := fRun (X n) n T Tryz.f102 ia io (w_, b, ())
theorem e0 (n : Nat) (w_ : D_pack_Writer) (b : List (Int)) : f n w_ b =
  bIf ((hide true)) (
    gIf ((w_.1.length + b.length) * 1 ≤ 70368744177664) (
      some (((w_.1 ++ b), w_.2), ())
      )
    ) (
    some ((w_.1, w_.2), ())
    ) := (hideF_eq _).trans (by kernel_rfl)
theorem phi (n : Nat) : ∀ e ∈ (X n).c.Φ, EntryOk Tryz.prog e := allE_nil
theorem ok (n : Nat) : FnOk Tryz.prog 102 ia io (fRun (X n) n T Tryz.f102 ia io) := tree_ok mixed tabIs (phi n) Tryz.func102 (by kernel_rfl) rfl
noncomputable def en (n : Nat) : Entry := mkEntry 102 ia io (fRun (X n) n T Tryz.f102 ia io)
end F_pack_Writer_put
end Go.Proofs.YtcpkhpboemfglaaGreatDoor


namespace Go.Proofs.YtcpkhpboemfglaaGreatDoor
open Go Go.Va Go.Proofs
/- (*chartulary/pack.Writer).Num -/
namespace F_pack_Writer_Num
abbrev ia : List Ai := [.ptr (.p (.r 0 (.int .u8)) (.d .unit)), .dat (.int .u64)]
abbrev io : List (Nat × Oi) := [(4, .arg 0 500000 (.d T_pack_Writer))]
abbrev R : Type := DOut ia io
noncomputable def X (n : Nat) : Ctx := ⟨⟨tab, [F_pack_Writer_put.en n, F_bits_Pack.en n], 0, []⟩, 9, bnOf 0 ia⟩
noncomputable def T : CT := .o
noncomputable def f (n : Nat) (w_ : D_pack_Writer) (n_ : Int) : Option R := fRun (X n) n T Tryz.f37 ia io (w_, n_, ())
theorem e0 (n : Nat) (w_ : D_pack_Writer) (n_ : Int) : f n w_ n_ =
  bnd (F_bits_Pack.f n n_) fun u1 =>
  bnd (F_pack_Writer_put.f n (w_.1, w_.2) u1.1) fun u2 =>
  some ((u2.1.1, u2.1.2), ()) := (hideF_eq _).trans (by kernel_rfl)
theorem phi (n : Nat) : ∀ e ∈ (X n).c.Φ, EntryOk Tryz.prog e := allE_cons (mkEntry_ok (F_pack_Writer_put.ok n)) (allE_cons (mkEntry_ok (F_bits_Pack.ok n)) (allE_nil))
theorem ok (n : Nat) : FnOk Tryz.prog 37 ia io (fRun (X n) n T Tryz.f37 ia io) := tree_ok mixed tabIs (phi n) Tryz.func37 (by kernel_rfl) rfl
noncomputable def en (n : Nat) : Entry := mkEntry 37 ia io (fRun (X n) n T Tryz.f37 ia io)
end F_pack_Writer_Num
end Go.Proofs.YtcpkhpboemfglaaGreatDoor


namespace Go.Proofs.YtcpkhpboemfglaaGreatDoor
open Go Go.Va Go.Proofs
/- (chartulary/entry.Writer).Default -/
namespace F_entry_Writer_Default
abbrev ia : List Ai := [.fn (.str 1) [(.p (.r 0 (.int .u8)) (.d .unit))], .dat T_api_Default]
abbrev io : List (Nat × Oi) := []
abbrev R : Type := DOut ia io
noncomputable def X (n : Nat) : Ctx := ⟨⟨tab, [F_pack_Writer_Num.en n], 0, []⟩, 14, bnOf 0 ia⟩
noncomputable def T : CT := .o
noncomputable def f (n : Nat) (wc0 : D_pack_Writer) (d : D_api_Default) : Option R := fRun (X n) n T Tryz.f105 ia io (wc0, d, ())
theorem e0 (n : Nat) (wc0 : D_pack_Writer) (d : D_api_Default) : f n wc0 d =
  bnd (F_pack_Writer_Num.f n (wc0.1, wc0.2) (IntKind.u64.wrap d.1)) fun u1 =>
  bnd (F_pack_Writer_Num.f n (u1.1.1, u1.1.2) (IntKind.u64.wrap d.2.1)) fun u2 =>
  some ((u2.1.1, u2.1.2), ()) := (hideF_eq _).trans (by kernel_rfl)
theorem phi (n : Nat) : ∀ e ∈ (X n).c.Φ, EntryOk Tryz.prog e := allE_cons (mkEntry_ok (F_pack_Writer_Num.ok n)) (allE_nil)
theorem ok (n : Nat) : FnOk Tryz.prog 105 ia io (fRun (X n) n T Tryz.f105 ia io) := tree_ok mixed tabIs (phi n) Tryz.func105 (by kernel_rfl) rfl
noncomputable def en (n : Nat) : Entry := mkEntry 105 ia io (fRun (X n) n T Tryz.f105 ia io)
end F_entry_Writer_Default
end Go.Proofs.YtcpkhpboemfglaaGreatDoor


namespace Go.Proofs.YtcpkhpboemfglaaGreatDoor
open Go Go.Va Go.Proofs
/- (*chartulary/pack.Writer).Flag -/
namespace F_pack_Writer_Flag
abbrev ia : List Ai := [.ptr (.p (.r 0 (.int .u8)) (.d .unit)), .dat .bool]
abbrev io : List (Nat × Oi) := [(4, .arg 0 500000 (.d T_pack_Writer))]
abbrev R : Type := DOut ia io
noncomputable def X (n : Nat) : Ctx := ⟨⟨tab, [F_pack_Writer_put.en n], 0, []⟩, 12, bnOf 0 ia⟩
noncomputable def T : CT := .o
noncomputable def f (n : Nat) (w_ : D_pack_Writer) (b : Bool) : Option R := fRun (X n) n T Tryz.f84 ia io (w_, b, ())
theorem e0 (n : Nat) (w_ : D_pack_Writer) (b : Bool) : f n w_ b =
  bIf (b) (
    bnd (F_pack_Writer_put.f n (w_.1, w_.2) ([1] : List (Int))) fun u1 =>
    some ((u1.1.1, u1.1.2), ())
    ) (
    bnd (F_pack_Writer_put.f n (w_.1, w_.2) ([0] : List (Int))) fun u2 =>
    some ((u2.1.1, u2.1.2), ())
    ) := (hideF_eq _).trans (by kernel_rfl)
theorem phi (n : Nat) : ∀ e ∈ (X n).c.Φ, EntryOk Tryz.prog e := allE_cons (mkEntry_ok (F_pack_Writer_put.ok n)) (allE_nil)
theorem ok (n : Nat) : FnOk Tryz.prog 84 ia io (fRun (X n) n T Tryz.f84 ia io) := tree_ok mixed tabIs (phi n) Tryz.func84 (by kernel_rfl) rfl
noncomputable def en (n : Nat) : Entry := mkEntry 84 ia io (fRun (X n) n T Tryz.f84 ia io)
end F_pack_Writer_Flag
end Go.Proofs.YtcpkhpboemfglaaGreatDoor


namespace Go.Proofs.YtcpkhpboemfglaaGreatDoor
open Go Go.Va Go.Proofs
/- (*chartulary/pack.Writer).Text -/
namespace F_pack_Writer_Text
abbrev ia : List Ai := [.ptr (.p (.r 0 (.int .u8)) (.d .unit)), .dat .str]
abbrev io : List (Nat × Oi) := [(4, .arg 0 500000 (.d T_pack_Writer))]
abbrev R : Type := DOut ia io
noncomputable def X (n : Nat) : Ctx := ⟨⟨tab, [F_pack_Writer_Num.en n, F_pack_Writer_put.en n], 0, []⟩, 13, bnOf 0 ia⟩
noncomputable def T : CT := .o
noncomputable def f (n : Nat) (w_ : D_pack_Writer) (s_ : ByteArray) : Option R := fRun (X n) n T Tryz.f83 ia io (w_, s_, ())
theorem e0 (n : Nat) (w_ : D_pack_Writer) (s_ : ByteArray) : f n w_ s_ =
  bnd (F_pack_Writer_Num.f n (w_.1, w_.2) (IntKind.u64.wrap (s_.size : Int))) fun u1 =>
  bnd (F_pack_Writer_put.f n (u1.1.1, u1.1.2) (ofBytes s_)) fun u2 =>
  some ((u2.1.1, u2.1.2), ()) := (hideF_eq _).trans (by kernel_rfl)
theorem phi (n : Nat) : ∀ e ∈ (X n).c.Φ, EntryOk Tryz.prog e := allE_cons (mkEntry_ok (F_pack_Writer_Num.ok n)) (allE_cons (mkEntry_ok (F_pack_Writer_put.ok n)) (allE_nil))
theorem ok (n : Nat) : FnOk Tryz.prog 83 ia io (fRun (X n) n T Tryz.f83 ia io) := tree_ok mixed tabIs (phi n) Tryz.func83 (by kernel_rfl) rfl
noncomputable def en (n : Nat) : Entry := mkEntry 83 ia io (fRun (X n) n T Tryz.f83 ia io)
end F_pack_Writer_Text
end Go.Proofs.YtcpkhpboemfglaaGreatDoor


namespace Go.Proofs.YtcpkhpboemfglaaGreatDoor
open Go Go.Va Go.Proofs
/- (chartulary/entry.Writer).Grants -/
namespace F_entry_Writer_Grants
abbrev ia : List Ai := [.fn (.str 1) [(.p (.r 0 (.int .u8)) (.d .unit))], .dat (.slice T_api_Grant)]
abbrev io : List (Nat × Oi) := []
abbrev R : Type := DOut ia io
noncomputable def X (n : Nat) : Ctx := ⟨⟨tab, [F_pack_Writer_Num.en n, F_pack_Writer_Text.en n, F_pack_Writer_Flag.en n], 0, []⟩, 33, bnOf 0 ia⟩
abbrev g1 : List Si := [.ref 2 2 T_entry_Reader, .dat 12 (.slice T_api_Grant), .dat 13 (.int .i64), .dat 14 (.int .i64), .box 2 (.p (.al 500000 T_pack_Writer) (.d .unit)), .box 500000 (.p (.r 100000500000000 (.int .u8)) (.d .unit))]
noncomputable def T : CT := (.s .o (.s .o (.s .o (.b (.l g1 .o)))))
noncomputable def J1 (n : Nat) (m : Nat) : (List (D_api_Grant)) × Int × Int × D_entry_Reader × D_pack_Writer × Unit → Option R := jL (X n) n T (bodyOf Tryz.f107) (endK ia io) g1 [1, 1, 1, 0] [] m
noncomputable def f (n : Nat) (wc0 : D_pack_Writer) (list : List (D_api_Grant)) : Option R := fRun (X n) n T Tryz.f107 ia io (wc0, list, ())
theorem e0 (n : Nat) (wc0 : D_pack_Writer) (list : List (D_api_Grant)) : f n wc0 list =
  bnd (F_pack_Writer_Num.f n (wc0.1, wc0.2) (IntKind.u64.wrap ((list.length : Nat) : Int))) fun u1 =>
  J1 n n (list, ((list.length : Nat) : Int), 0, ((), ()), (u1.1.1, u1.1.2), ()) := (hideF_eq _).trans (by kernel_rfl)
theorem e1 (n m : Nat) (t12 : List (D_api_Grant)) (t13 : Int) (t14 : Int) (w_ : D_entry_Reader) (b500000 : D_pack_Writer) : J1 n (m + 1) (t12, t13, t14, w_, b500000, ()) =
  bIf ((hide (decide (t14 < t13)))) (
    gIf (0 ≤ t14 ∧ t14 < ((t12.length : Nat) : Int)) (
      bnd (F_pack_Writer_Flag.f n (b500000.1, b500000.2) ((List.getD t12 t14.toNat (Va.dflt T_api_Grant)).1)) fun u1 =>
      bnd (F_pack_Writer_Text.f n (u1.1.1, u1.1.2) (((List.getD t12 t14.toNat (Va.dflt T_api_Grant)).2).1)) fun u2 =>
      bnd (F_pack_Writer_Text.f n (u2.1.1, u2.1.2) ((((List.getD t12 t14.toNat (Va.dflt T_api_Grant)).2).2).1)) fun u3 =>
      bnd (F_pack_Writer_Text.f n (u3.1.1, u3.1.2) (((((List.getD t12 t14.toNat (Va.dflt T_api_Grant)).2).2).2).1)) fun u4 =>
      J1 n m (t12, t13, (IntKind.i64.wrap (t14 + (1 : Int))), ((), w_.2), (u4.1.1, u4.1.2), ())
      )
    ) (
    some ((b500000.1, b500000.2), ())
    ) := (hideF_eq _).trans (by kernel_rfl)
theorem phi (n : Nat) : ∀ e ∈ (X n).c.Φ, EntryOk Tryz.prog e := allE_cons (mkEntry_ok (F_pack_Writer_Num.ok n)) (allE_cons (mkEntry_ok (F_pack_Writer_Text.ok n)) (allE_cons (mkEntry_ok (F_pack_Writer_Flag.ok n)) (allE_nil)))
theorem ok (n : Nat) : FnOk Tryz.prog 107 ia io (fRun (X n) n T Tryz.f107 ia io) := tree_ok mixed tabIs (phi n) Tryz.func107 (by kernel_rfl) rfl
noncomputable def en (n : Nat) : Entry := mkEntry 107 ia io (fRun (X n) n T Tryz.f107 ia io)
end F_entry_Writer_Grants
end Go.Proofs.YtcpkhpboemfglaaGreatDoor


namespace Go.Proofs.YtcpkhpboemfglaaGreatDoor
open Go Go.Va Go.Proofs
/- chartulary/bits.Zig -/
namespace F_bits_Zig
abbrev ia : List Ai := [.dat (.int .i64)]
abbrev io : List (Nat × Oi) := [(2, .dat (.int .u64))]
abbrev R : Type := DOut ia io
noncomputable def X (n : Nat) : Ctx := ⟨⟨tab, [], 0, []⟩, 10, bnOf 0 ia⟩
noncomputable def T : CT := .o
noncomputable def f (n : Nat) (n_ : Int) : Option R := fRun (X n) n T Tryz.f172 ia io (n_, ())
theorem e0 (n : Nat) (n_ : Int) : f n n_ =
  gNo ((1 : Int) < 0) (
    gNo ((63 : Int) < 0) (
      some ((bitI .xor .u64 (shlI .u64 (IntKind.u64.wrap n_) 1) (IntKind.u64.wrap (shrI .i64 n_ 63))), ())
      )
    ) := (hideF_eq _).trans (by kernel_rfl)
theorem phi (n : Nat) : ∀ e ∈ (X n).c.Φ, EntryOk Tryz.prog e := allE_nil
theorem ok (n : Nat) : FnOk Tryz.prog 172 ia io (fRun (X n) n T Tryz.f172 ia io) := tree_ok mixed tabIs (phi n) Tryz.func172 (by kernel_rfl) rfl
noncomputable def en (n : Nat) : Entry := mkEntry 172 ia io (fRun (X n) n T Tryz.f172 ia io)
end F_bits_Zig
end Go.Proofs.YtcpkhpboemfglaaGreatDoor


namespace Go.Proofs.YtcpkhpboemfglaaGreatDoor
open Go Go.Va Go.Proofs
/- (*chartulary/pack.Writer).Int -/
namespace F_pack_Writer_Int
abbrev ia : List Ai := [.ptr (.p (.r 0 (.int .u8)) (.d .unit)), .dat (.int .i64)]
abbrev io : List (Nat × Oi) := [(4, .arg 0 500000 (.d T_pack_Writer))]
abbrev R : Type := DOut ia io
noncomputable def X (n : Nat) : Ctx := ⟨⟨tab, [F_pack_Writer_Num.en n, F_bits_Zig.en n], 0, []⟩, 9, bnOf 0 ia⟩
noncomputable def T : CT := .o
noncomputable def f (n : Nat) (w_ : D_pack_Writer) (n_ : Int) : Option R := fRun (X n) n T Tryz.f104 ia io (w_, n_, ())
theorem e0 (n : Nat) (w_ : D_pack_Writer) (n_ : Int) : f n w_ n_ =
  bnd (F_bits_Zig.f n n_) fun u1 =>
  bnd (F_pack_Writer_Num.f n (w_.1, w_.2) u1.1) fun u2 =>
  some ((u2.1.1, u2.1.2), ()) := (hideF_eq _).trans (by kernel_rfl)
theorem phi (n : Nat) : ∀ e ∈ (X n).c.Φ, EntryOk Tryz.prog e := allE_cons (mkEntry_ok (F_pack_Writer_Num.ok n)) (allE_cons (mkEntry_ok (F_bits_Zig.ok n)) (allE_nil))
theorem ok (n : Nat) : FnOk Tryz.prog 104 ia io (fRun (X n) n T Tryz.f104 ia io) := tree_ok mixed tabIs (phi n) Tryz.func104 (by kernel_rfl) rfl
noncomputable def en (n : Nat) : Entry := mkEntry 104 ia io (fRun (X n) n T Tryz.f104 ia io)
end F_pack_Writer_Int
end Go.Proofs.YtcpkhpboemfglaaGreatDoor


namespace Go.Proofs.YtcpkhpboemfglaaGreatDoor
open Go Go.Va Go.Proofs
/- (chartulary/entry.Writer).Lock -/
namespace F_entry_Writer_Lock
abbrev ia : List Ai := [.fn (.str 1) [(.p (.r 0 (.int .u8)) (.d .unit))], .dat T_api_Lock]
abbrev io : List (Nat × Oi) := []
abbrev R : Type := DOut ia io
noncomputable def X (n : Nat) : Ctx := ⟨⟨tab, [F_pack_Writer_Num.en n, F_pack_Writer_Flag.en n, F_pack_Writer_Int.en n], 0, []⟩, 16, bnOf 0 ia⟩
noncomputable def T : CT := .o
noncomputable def f (n : Nat) (wc0 : D_pack_Writer) (l : D_api_Lock) : Option R := fRun (X n) n T Tryz.f108 ia io (wc0, l, ())
theorem e0 (n : Nat) (wc0 : D_pack_Writer) (l : D_api_Lock) : f n wc0 l =
  bnd (F_pack_Writer_Num.f n (wc0.1, wc0.2) (IntKind.u64.wrap l.1)) fun u1 =>
  bnd (F_pack_Writer_Int.f n (u1.1.1, u1.1.2) l.2.1) fun u2 =>
  bnd (F_pack_Writer_Flag.f n (u2.1.1, u2.1.2) l.2.2.1) fun u3 =>
  some ((u3.1.1, u3.1.2), ()) := (hideF_eq _).trans (by kernel_rfl)
theorem phi (n : Nat) : ∀ e ∈ (X n).c.Φ, EntryOk Tryz.prog e := allE_cons (mkEntry_ok (F_pack_Writer_Num.ok n)) (allE_cons (mkEntry_ok (F_pack_Writer_Flag.ok n)) (allE_cons (mkEntry_ok (F_pack_Writer_Int.ok n)) (allE_nil)))
theorem ok (n : Nat) : FnOk Tryz.prog 108 ia io (fRun (X n) n T Tryz.f108 ia io) := tree_ok mixed tabIs (phi n) Tryz.func108 (by kernel_rfl) rfl
noncomputable def en (n : Nat) : Entry := mkEntry 108 ia io (fRun (X n) n T Tryz.f108 ia io)
end F_entry_Writer_Lock
end Go.Proofs.YtcpkhpboemfglaaGreatDoor


namespace Go.Proofs.YtcpkhpboemfglaaGreatDoor
open Go Go.Va Go.Proofs
/- (*chartulary/pack.Writer).Digest -/
namespace F_pack_Writer_Digest
abbrev ia : List Ai := [.ptr (.p (.r 0 (.int .u8)) (.d .unit)), .dat (.arr 32 (.int .u8))]
abbrev io : List (Nat × Oi) := [(4, .arg 0 500000 (.d T_pack_Writer))]
abbrev R : Type := DOut ia io
noncomputable def X (n : Nat) : Ctx := ⟨⟨tab, [F_pack_Writer_put.en n], 0, [6]⟩, 8, bnOf 0 ia⟩
noncomputable def T : CT := .o
noncomputable def f (n : Nat) (w_ : D_pack_Writer) (d : List (Int)) : Option R := fRun (X n) n T Tryz.f162 ia io (w_, d, ())
theorem e0 (n : Nat) (w_ : D_pack_Writer) (d : List (Int)) : f n w_ d =
  bnd (F_pack_Writer_put.f n (w_.1, w_.2) d) fun u1 =>
  some ((u1.1.1, u1.1.2), ()) := (hideF_eq _).trans (by kernel_rfl)
theorem phi (n : Nat) : ∀ e ∈ (X n).c.Φ, EntryOk Tryz.prog e := allE_cons (mkEntry_ok (F_pack_Writer_put.ok n)) (allE_nil)
theorem ok (n : Nat) : FnOk Tryz.prog 162 ia io (fRun (X n) n T Tryz.f162 ia io) := tree_ok mixed tabIs (phi n) Tryz.func162 (by kernel_rfl) rfl
noncomputable def en (n : Nat) : Entry := mkEntry 162 ia io (fRun (X n) n T Tryz.f162 ia io)
end F_pack_Writer_Digest
end Go.Proofs.YtcpkhpboemfglaaGreatDoor


namespace Go.Proofs.YtcpkhpboemfglaaGreatDoor
open Go Go.Va Go.Proofs
/- (chartulary/entry.Writer).Part -/
namespace F_entry_Writer_Part
abbrev ia : List Ai := [.fn (.str 1) [(.p (.r 0 (.int .u8)) (.d .unit))], .dat T_api_Part]
abbrev io : List (Nat × Oi) := []
abbrev R : Type := DOut ia io
noncomputable def X (n : Nat) : Ctx := ⟨⟨tab, [F_pack_Writer_Num.en n, F_pack_Writer_Digest.en n], 0, []⟩, 20, bnOf 0 ia⟩
noncomputable def T : CT := .o
noncomputable def f (n : Nat) (wc0 : D_pack_Writer) (p : D_api_Part) : Option R := fRun (X n) n T Tryz.f110 ia io (wc0, p, ())
theorem e0 (n : Nat) (wc0 : D_pack_Writer) (p : D_api_Part) : f n wc0 p =
  bnd (F_pack_Writer_Num.f n (wc0.1, wc0.2) (IntKind.u64.wrap p.1)) fun u1 =>
  bnd (F_pack_Writer_Num.f n (u1.1.1, u1.1.2) (IntKind.u64.wrap p.2.1)) fun u2 =>
  bnd (F_pack_Writer_Num.f n (u2.1.1, u2.1.2) p.2.2.1) fun u3 =>
  bnd (F_pack_Writer_Digest.f n (u3.1.1, u3.1.2) p.2.2.2.1) fun u4 =>
  some ((u4.1.1, u4.1.2), ()) := (hideF_eq _).trans (by kernel_rfl)
theorem phi (n : Nat) : ∀ e ∈ (X n).c.Φ, EntryOk Tryz.prog e := allE_cons (mkEntry_ok (F_pack_Writer_Num.ok n)) (allE_cons (mkEntry_ok (F_pack_Writer_Digest.ok n)) (allE_nil))
theorem ok (n : Nat) : FnOk Tryz.prog 110 ia io (fRun (X n) n T Tryz.f110 ia io) := tree_ok mixed tabIs (phi n) Tryz.func110 (by kernel_rfl) rfl
noncomputable def en (n : Nat) : Entry := mkEntry 110 ia io (fRun (X n) n T Tryz.f110 ia io)
end F_entry_Writer_Part
end Go.Proofs.YtcpkhpboemfglaaGreatDoor


namespace Go.Proofs.YtcpkhpboemfglaaGreatDoor
open Go Go.Va Go.Proofs
/- (chartulary/entry.Writer).Tags -/
namespace F_entry_Writer_Tags
abbrev ia : List Ai := [.fn (.str 1) [(.p (.r 0 (.int .u8)) (.d .unit))], .dat (.slice T_api_Tag)]
abbrev io : List (Nat × Oi) := []
abbrev R : Type := DOut ia io
noncomputable def X (n : Nat) : Ctx := ⟨⟨tab, [F_pack_Writer_Num.en n, F_pack_Writer_Text.en n], 0, []⟩, 27, bnOf 0 ia⟩
abbrev g1 : List Si := [.ref 2 2 T_entry_Reader, .dat 12 (.slice T_api_Tag), .dat 13 (.int .i64), .dat 14 (.int .i64), .box 2 (.p (.al 500000 T_pack_Writer) (.d .unit)), .box 500000 (.p (.r 100000500000000 (.int .u8)) (.d .unit))]
noncomputable def T : CT := (.s .o (.s .o (.s .o (.b (.l g1 .o)))))
noncomputable def J1 (n : Nat) (m : Nat) : (List (D_api_Tag)) × Int × Int × D_entry_Reader × D_pack_Writer × Unit → Option R := jL (X n) n T (bodyOf Tryz.f109) (endK ia io) g1 [1, 1, 1, 0] [] m
noncomputable def f (n : Nat) (wc0 : D_pack_Writer) (list : List (D_api_Tag)) : Option R := fRun (X n) n T Tryz.f109 ia io (wc0, list, ())
theorem e0 (n : Nat) (wc0 : D_pack_Writer) (list : List (D_api_Tag)) : f n wc0 list =
  bnd (F_pack_Writer_Num.f n (wc0.1, wc0.2) (IntKind.u64.wrap ((list.length : Nat) : Int))) fun u1 =>
  J1 n n (list, ((list.length : Nat) : Int), 0, ((), ()), (u1.1.1, u1.1.2), ()) := (hideF_eq _).trans (by kernel_rfl)
theorem e1 (n m : Nat) (t12 : List (D_api_Tag)) (t13 : Int) (t14 : Int) (w_ : D_entry_Reader) (b500000 : D_pack_Writer) : J1 n (m + 1) (t12, t13, t14, w_, b500000, ()) =
  bIf ((hide (decide (t14 < t13)))) (
    gIf (0 ≤ t14 ∧ t14 < ((t12.length : Nat) : Int)) (
      bnd (F_pack_Writer_Text.f n (b500000.1, b500000.2) ((List.getD t12 t14.toNat (Va.dflt T_api_Tag)).1)) fun u1 =>
      bnd (F_pack_Writer_Text.f n (u1.1.1, u1.1.2) (((List.getD t12 t14.toNat (Va.dflt T_api_Tag)).2).1)) fun u2 =>
      J1 n m (t12, t13, (IntKind.i64.wrap (t14 + (1 : Int))), ((), w_.2), (u2.1.1, u2.1.2), ())
      )
    ) (
    some ((b500000.1, b500000.2), ())
    ) := (hideF_eq _).trans (by kernel_rfl)
theorem phi (n : Nat) : ∀ e ∈ (X n).c.Φ, EntryOk Tryz.prog e := allE_cons (mkEntry_ok (F_pack_Writer_Num.ok n)) (allE_cons (mkEntry_ok (F_pack_Writer_Text.ok n)) (allE_nil))
theorem ok (n : Nat) : FnOk Tryz.prog 109 ia io (fRun (X n) n T Tryz.f109 ia io) := tree_ok mixed tabIs (phi n) Tryz.func109 (by kernel_rfl) rfl
noncomputable def en (n : Nat) : Entry := mkEntry 109 ia io (fRun (X n) n T Tryz.f109 ia io)
end F_entry_Writer_Tags
end Go.Proofs.YtcpkhpboemfglaaGreatDoor


namespace Go.Proofs.YtcpkhpboemfglaaGreatDoor
open Go Go.Va Go.Proofs
/- (chartulary/entry.Writer).Rules -/
namespace F_entry_Writer_Rules
abbrev ia : List Ai := [.fn (.str 1) [(.p (.r 0 (.int .u8)) (.d .unit))], .dat (.slice T_api_Rule)]
abbrev io : List (Nat × Oi) := []
abbrev R : Type := DOut ia io
noncomputable def X (n : Nat) : Ctx := ⟨⟨tab, [F_pack_Writer_Num.en n, F_pack_Writer_Text.en n, F_pack_Writer_Flag.en n, F_entry_Writer_Tags.en n], 0, []⟩, 41, bnOf 0 ia⟩
abbrev g1 : List Si := [.ref 2 2 T_entry_Reader, .dat 12 (.slice T_api_Rule), .dat 13 (.int .i64), .dat 14 (.int .i64), .box 2 (.p (.al 500000 T_pack_Writer) (.d .unit)), .box 500000 (.p (.r 100000500000000 (.int .u8)) (.d .unit))]
noncomputable def T : CT := (.s .o (.s .o (.s .o (.b (.l g1 .o)))))
noncomputable def J1 (n : Nat) (m : Nat) : (List (D_api_Rule)) × Int × Int × D_entry_Reader × D_pack_Writer × Unit → Option R := jL (X n) n T (bodyOf Tryz.f106) (endK ia io) g1 [1, 1, 1, 0] [] m
noncomputable def f (n : Nat) (wc0 : D_pack_Writer) (list : List (D_api_Rule)) : Option R := fRun (X n) n T Tryz.f106 ia io (wc0, list, ())
theorem e0 (n : Nat) (wc0 : D_pack_Writer) (list : List (D_api_Rule)) : f n wc0 list =
  bnd (F_pack_Writer_Num.f n (wc0.1, wc0.2) (IntKind.u64.wrap ((list.length : Nat) : Int))) fun u1 =>
  J1 n n (list, ((list.length : Nat) : Int), 0, ((), ()), (u1.1.1, u1.1.2), ()) := (hideF_eq _).trans (by kernel_rfl)
theorem e1 (n m : Nat) (t12 : List (D_api_Rule)) (t13 : Int) (t14 : Int) (w_ : D_entry_Reader) (b500000 : D_pack_Writer) : J1 n (m + 1) (t12, t13, t14, w_, b500000, ()) =
  bIf ((hide (decide (t14 < t13)))) (
    gIf (0 ≤ t14 ∧ t14 < ((t12.length : Nat) : Int)) (
      bnd (F_pack_Writer_Text.f n (b500000.1, b500000.2) ((List.getD t12 t14.toNat (Va.dflt T_api_Rule)).1)) fun u1 =>
      bnd (F_entry_Writer_Tags.f n (u1.1.1, u1.1.2) (((List.getD t12 t14.toNat (Va.dflt T_api_Rule)).2).1)) fun u2 =>
      bnd (F_pack_Writer_Num.f n (u2.1.1, u2.1.2) (IntKind.u64.wrap ((((List.getD t12 t14.toNat (Va.dflt T_api_Rule)).2).2).1))) fun u3 =>
      bnd (F_pack_Writer_Num.f n (u3.1.1, u3.1.2) (IntKind.u64.wrap (((((List.getD t12 t14.toNat (Va.dflt T_api_Rule)).2).2).2).1))) fun u4 =>
      bnd (F_pack_Writer_Flag.f n (u4.1.1, u4.1.2) ((((((List.getD t12 t14.toNat (Va.dflt T_api_Rule)).2).2).2).2).1)) fun u5 =>
      J1 n m (t12, t13, (IntKind.i64.wrap (t14 + (1 : Int))), ((), w_.2), (u5.1.1, u5.1.2), ())
      )
    ) (
    some ((b500000.1, b500000.2), ())
    ) := (hideF_eq _).trans (by kernel_rfl)
theorem phi (n : Nat) : ∀ e ∈ (X n).c.Φ, EntryOk Tryz.prog e := allE_cons (mkEntry_ok (F_pack_Writer_Num.ok n)) (allE_cons (mkEntry_ok (F_pack_Writer_Text.ok n)) (allE_cons (mkEntry_ok (F_pack_Writer_Flag.ok n)) (allE_cons (mkEntry_ok (F_entry_Writer_Tags.ok n)) (allE_nil))))
theorem ok (n : Nat) : FnOk Tryz.prog 106 ia io (fRun (X n) n T Tryz.f106 ia io) := tree_ok mixed tabIs (phi n) Tryz.func106 (by kernel_rfl) rfl
noncomputable def en (n : Nat) : Entry := mkEntry 106 ia io (fRun (X n) n T Tryz.f106 ia io)
end F_entry_Writer_Rules
end Go.Proofs.YtcpkhpboemfglaaGreatDoor


namespace Go.Proofs.YtcpkhpboemfglaaGreatDoor
open Go Go.Va Go.Proofs
/- (chartulary/entry.Writer).Version -/
namespace F_entry_Writer_Version
abbrev ia : List Ai := [.fn (.str 1) [(.p (.r 0 (.int .u8)) (.d .unit))], .dat T_api_Version]
abbrev io : List (Nat × Oi) := []
abbrev R : Type := DOut ia io
noncomputable def X (n : Nat) : Ctx := ⟨⟨tab, [F_pack_Writer_Num.en n, F_pack_Writer_Flag.en n, F_pack_Writer_Int.en n, F_entry_Writer_Lock.en n, F_entry_Writer_Tags.en n, F_pack_Writer_Digest.en n], 0, []⟩, 37, bnOf 0 ia⟩
noncomputable def T : CT := .o
noncomputable def f (n : Nat) (wc0 : D_pack_Writer) (v_ : D_api_Version) : Option R := fRun (X n) n T Tryz.f85 ia io (wc0, v_, ())
theorem e0 (n : Nat) (wc0 : D_pack_Writer) (v_ : D_api_Version) : f n wc0 v_ =
  bnd (F_pack_Writer_Num.f n (wc0.1, wc0.2) v_.1) fun u1 =>
  bnd (F_pack_Writer_Flag.f n (u1.1.1, u1.1.2) v_.2.1) fun u2 =>
  bnd (F_pack_Writer_Int.f n (u2.1.1, u2.1.2) v_.2.2.2.2.2.1) fun u3 =>
  bIf (v_.2.1) (
    some ((u3.1.1, u3.1.2), ())
    ) (
    bnd (F_pack_Writer_Num.f n (u3.1.1, u3.1.2) (IntKind.u64.wrap v_.2.2.1)) fun u4 =>
    bnd (F_pack_Writer_Num.f n (u4.1.1, u4.1.2) v_.2.2.2.1) fun u5 =>
    bnd (F_pack_Writer_Digest.f n (u5.1.1, u5.1.2) v_.2.2.2.2.1) fun u6 =>
    bnd (F_entry_Writer_Lock.f n (u6.1.1, u6.1.2) v_.2.2.2.2.2.2.1) fun u7 =>
    bnd (F_entry_Writer_Tags.f n (u7.1.1, u7.1.2) v_.2.2.2.2.2.2.2.1) fun u8 =>
    some ((u8.1.1, u8.1.2), ())
    ) := (hideF_eq _).trans (by kernel_rfl)
theorem phi (n : Nat) : ∀ e ∈ (X n).c.Φ, EntryOk Tryz.prog e := allE_cons (mkEntry_ok (F_pack_Writer_Num.ok n)) (allE_cons (mkEntry_ok (F_pack_Writer_Flag.ok n)) (allE_cons (mkEntry_ok (F_pack_Writer_Int.ok n)) (allE_cons (mkEntry_ok (F_entry_Writer_Lock.ok n)) (allE_cons (mkEntry_ok (F_entry_Writer_Tags.ok n)) (allE_cons (mkEntry_ok (F_pack_Writer_Digest.ok n)) (allE_nil))))))
theorem ok (n : Nat) : FnOk Tryz.prog 85 ia io (fRun (X n) n T Tryz.f85 ia io) := tree_ok mixed tabIs (phi n) Tryz.func85 (by kernel_rfl) rfl
noncomputable def en (n : Nat) : Entry := mkEntry 85 ia io (fRun (X n) n T Tryz.f85 ia io)
end F_entry_Writer_Version
end Go.Proofs.YtcpkhpboemfglaaGreatDoor


namespace Go.Proofs.YtcpkhpboemfglaaGreatDoor
open Go Go.Va Go.Proofs
/- (chartulary/entry.Writer).entry -/
namespace F_entry_Writer_entry
abbrev ia : List Ai := [.fn (.str 1) [(.p (.r 0 (.int .u8)) (.d .unit))], .dat T_api_Entry]
abbrev io : List (Nat × Oi) := []
abbrev R : Type := DOut ia io
noncomputable def X (n : Nat) : Ctx := ⟨⟨tab, [F_pack_Writer_Num.en n, F_pack_Writer_Text.en n, F_entry_Writer_Version.en n, F_pack_Writer_Int.en n, F_entry_Writer_Default.en n, F_entry_Writer_Rules.en n, F_entry_Writer_Grants.en n, F_entry_Writer_Lock.en n, F_entry_Writer_Tags.en n, F_entry_Writer_Part.en n], 0, []⟩, 109, bnOf 0 ia⟩
abbrev g1 : List Si := [.ref 2 2 T_entry_Reader, .ref 3 3 T_api_Entry, .box 2 (.p (.al 500000 T_pack_Writer) (.d .unit)), .box 3 (.d T_api_Entry), .box 500000 (.p (.r 100000500000000 (.int .u8)) (.d .unit))]
abbrev g2 : List Si := [.ref 2 2 T_entry_Reader, .ref 3 3 T_api_Entry, .dat 22 (.int .i64), .dat 76 .bool, .box 2 (.p (.al 500000 T_pack_Writer) (.d .unit)), .box 3 (.d T_api_Entry), .box 500000 (.p (.r 100000500000000 (.int .u8)) (.d .unit))]
noncomputable def T : CT := (.s .o (.s .o (.s .o (.r g1 (.s .o (.b (.s .o (.c .o (.s .o (.c .o (.s .o (.c .o (.s .o (.c .o (.s .o (.c .o (.s .o (.c .o (.s .o (.r g2 .o))))))))))))))))))))
noncomputable def J1 (n : Nat) : D_entry_Reader × D_api_Entry × D_pack_Writer × Unit → Option R := jR (X n) n T (bodyOf Tryz.f38) (endK ia io) g1 [1, 1, 1] []
noncomputable def J2 (n : Nat) : Int × Bool × D_entry_Reader × D_api_Entry × D_pack_Writer × Unit → Option R := jR (X n) n T (bodyOf Tryz.f38) (endK ia io) g2 [1, 1, 1, 1, 0, 1, 1, 1, 1, 1, 1, 1, 1, 1, 1, 1, 1, 1] []
noncomputable def f (n : Nat) (wc0 : D_pack_Writer) (e_ : D_api_Entry) : Option R := fRun (X n) n T Tryz.f38 ia io (wc0, e_, ())
theorem e0 (n : Nat) (wc0 : D_pack_Writer) (e_ : D_api_Entry) : f n wc0 e_ =
  bnd (F_pack_Writer_Num.f n (wc0.1, wc0.2) (IntKind.u64.wrap e_.1)) fun u1 =>
  bnd (F_pack_Writer_Int.f n (u1.1.1, u1.1.2) e_.2.1) fun u2 =>
  bIf ((hide (e_.1 != (1 : Int)))) (
    bnd (F_pack_Writer_Text.f n (u2.1.1, u2.1.2) e_.2.2.1) fun u3 =>
    J1 n (((), ()), e_, (u3.1.1, u3.1.2), ())
    ) (
    J1 n (((), ()), e_, (u2.1.1, u2.1.2), ())
    ) := (hideF_eq _).trans (by kernel_rfl)
theorem e1 (n : Nat) (w_ : D_entry_Reader) (e_ : D_api_Entry) (b500000 : D_pack_Writer) : J1 n (w_, e_, b500000, ()) =
  bIf ((hide (e_.1 == (4 : Int)))) (
    bnd (F_entry_Writer_Default.f n (b500000.1, b500000.2) e_.2.2.2.2.2.2.2.2.1) fun u1 =>
    some ((u1.1.1, u1.1.2), ())
    ) (
    bIf ((hide (e_.1 == (5 : Int)))) (
      bnd (F_entry_Writer_Rules.f n (b500000.1, b500000.2) e_.2.2.2.2.2.2.2.2.2.1) fun u2 =>
      some ((u2.1.1, u2.1.2), ())
      ) (
      bIf ((hide (e_.1 == (6 : Int)))) (
        bnd (F_entry_Writer_Grants.f n (b500000.1, b500000.2) e_.2.2.2.2.2.2.2.2.2.2.1) fun u3 =>
        some ((u3.1.1, u3.1.2), ())
        ) (
        bIf ((hide (e_.1 == (7 : Int)))) (
          bnd (F_pack_Writer_Text.f n (b500000.1, b500000.2) e_.2.2.2.1) fun u4 =>
          bnd (F_entry_Writer_Version.f n (u4.1.1, u4.1.2) e_.2.2.2.2.2.1) fun u5 =>
          some ((u5.1.1, u5.1.2), ())
          ) (
          bIf ((hide (e_.1 == (8 : Int)))) (
            bnd (F_pack_Writer_Text.f n (b500000.1, b500000.2) e_.2.2.2.1) fun u6 =>
            bnd (F_pack_Writer_Num.f n (u6.1.1, u6.1.2) e_.2.2.2.2.1) fun u7 =>
            some ((u7.1.1, u7.1.2), ())
            ) (
            bIf ((hide (e_.1 == (9 : Int)))) (
              bnd (F_pack_Writer_Text.f n (b500000.1, b500000.2) e_.2.2.2.1) fun u8 =>
              bnd (F_pack_Writer_Num.f n (u8.1.1, u8.1.2) e_.2.2.2.2.1) fun u9 =>
              bnd (F_entry_Writer_Lock.f n (u9.1.1, u9.1.2) e_.2.2.2.2.2.2.1) fun u10 =>
              some ((u10.1.1, u10.1.2), ())
              ) (
              bIf ((hide (e_.1 == (10 : Int)))) (
                J2 n (e_.1, true, ((), w_.2), e_, (b500000.1, b500000.2), ())
                ) (
                J2 n (e_.1, (hide (e_.1 == (11 : Int))), ((), w_.2), e_, (b500000.1, b500000.2), ())
                )
              )
            )
          )
        )
      )
    ) := (hideF_eq _).trans (by kernel_rfl)
theorem e2 (n : Nat) (t22 : Int) (t76 : Bool) (w_ : D_entry_Reader) (e_ : D_api_Entry) (b500000 : D_pack_Writer) : J2 n (t22, t76, w_, e_, b500000, ()) =
  bIf (t76) (
    bnd (F_pack_Writer_Text.f n (b500000.1, b500000.2) e_.2.2.2.1) fun u1 =>
    bnd (F_pack_Writer_Num.f n (u1.1.1, u1.1.2) e_.2.2.2.2.1) fun u2 =>
    bnd (F_entry_Writer_Tags.f n (u2.1.1, u2.1.2) e_.2.2.2.2.2.2.2.1) fun u3 =>
    some ((u3.1.1, u3.1.2), ())
    ) (
    bIf ((hide (t22 == (12 : Int)))) (
      bnd (F_pack_Writer_Num.f n (b500000.1, b500000.2) e_.2.2.2.2.1) fun u4 =>
      bnd (F_entry_Writer_Part.f n (u4.1.1, u4.1.2) e_.2.2.2.2.2.2.2.2.2.2.2.1) fun u5 =>
      some ((u5.1.1, u5.1.2), ())
      ) (
      bIf ((hide (t22 == (13 : Int)))) (
        bnd (F_pack_Writer_Num.f n (b500000.1, b500000.2) e_.2.2.2.2.1) fun u6 =>
        some ((u6.1.1, u6.1.2), ())
        ) (
        some ((b500000.1, b500000.2), ())
        )
      )
    ) := (hideF_eq _).trans (by kernel_rfl)
theorem phi (n : Nat) : ∀ e ∈ (X n).c.Φ, EntryOk Tryz.prog e := allE_cons (mkEntry_ok (F_pack_Writer_Num.ok n)) (allE_cons (mkEntry_ok (F_pack_Writer_Text.ok n)) (allE_cons (mkEntry_ok (F_entry_Writer_Version.ok n)) (allE_cons (mkEntry_ok (F_pack_Writer_Int.ok n)) (allE_cons (mkEntry_ok (F_entry_Writer_Default.ok n)) (allE_cons (mkEntry_ok (F_entry_Writer_Rules.ok n)) (allE_cons (mkEntry_ok (F_entry_Writer_Grants.ok n)) (allE_cons (mkEntry_ok (F_entry_Writer_Lock.ok n)) (allE_cons (mkEntry_ok (F_entry_Writer_Tags.ok n)) (allE_cons (mkEntry_ok (F_entry_Writer_Part.ok n)) (allE_nil))))))))))
theorem ok (n : Nat) : FnOk Tryz.prog 38 ia io (fRun (X n) n T Tryz.f38 ia io) := tree_ok mixed tabIs (phi n) Tryz.func38 (by kernel_rfl) rfl
noncomputable def en (n : Nat) : Entry := mkEntry 38 ia io (fRun (X n) n T Tryz.f38 ia io)
end F_entry_Writer_entry
end Go.Proofs.YtcpkhpboemfglaaGreatDoor


namespace Go.Proofs.YtcpkhpboemfglaaGreatDoor
open Go Go.Va Go.Proofs
/- slices.Clip[[]byte,byte] -/
namespace F_slices_Clip_byte
abbrev ia : List Ai := [.dat (.slice (.int .u8))]
abbrev io : List (Nat × Oi) := [(2, .dat (.slice (.int .u8)))]
abbrev R : Type := DOut ia io
noncomputable def X (n : Nat) : Ctx := ⟨⟨tab, [], 0, []⟩, 9, bnOf 0 ia⟩
noncomputable def T : CT := .o
noncomputable def f (n : Nat) (s_ : List (Int)) : Option R := fRun (X n) n T Tryz.f111 ia io (s_, ())
theorem e0 (n : Nat) (s_ : List (Int)) : f n s_ =
  gIf (0 ≤ ((s_.length : Nat) : Int) ∧ ((s_.length : Nat) : Int) ≤ ((s_.length : Nat) : Int)) (
    gIf (0 ≤ (0 : Int) ∧ (0 : Int) ≤ ((s_.length : Nat) : Int)) (
      gIf (((s_.length : Nat) : Int) ≤ ((s_.length : Nat) : Int) ∧ ((s_.length : Nat) : Int) ≤ ((s_.length : Nat) : Int) ∧ true = true) (
        some (((s_.take (((s_.length : Nat) : Int).toNat)).drop 0), ())
        )
      )
    ) := (hideF_eq _).trans (by kernel_rfl)
theorem phi (n : Nat) : ∀ e ∈ (X n).c.Φ, EntryOk Tryz.prog e := allE_nil
theorem ok (n : Nat) : FnOk Tryz.prog 111 ia io (fRun (X n) n T Tryz.f111 ia io) := tree_ok mixed tabIs (phi n) Tryz.func111 (by kernel_rfl) rfl
noncomputable def en (n : Nat) : Entry := mkEntry 111 ia io (fRun (X n) n T Tryz.f111 ia io)
end F_slices_Clip_byte
end Go.Proofs.YtcpkhpboemfglaaGreatDoor


namespace Go.Proofs.YtcpkhpboemfglaaGreatDoor
open Go Go.Va Go.Proofs
/- slices.Clone[[]byte,byte] -/
namespace F_slices_Clone_byte
abbrev ia : List Ai := [.dat (.slice (.int .u8))]
abbrev io : List (Nat × Oi) := [(2, .val (.r 0 (.int .u8)))]
abbrev R : Type := DOut ia io
noncomputable def X (n : Nat) : Ctx := ⟨⟨tab, [], 0, []⟩, 8, bnOf 0 ia⟩
noncomputable def T : CT := .o
noncomputable def f (n : Nat) (s_ : List (Int)) : Option R := fRun (X n) n T Tryz.f112 ia io (s_, ())
theorem e0 (n : Nat) (s_ : List (Int)) : f n s_ =
  bIf ((s_.length == 0)) (
    bothC (
      some ([], ())
      ) (
      gIf ((([] : List (Int)).length + s_.length) * 1 ≤ 70368744177664) (
        some ((([] : List (Int)) ++ s_), ())
        )
      )
    ) (
    gIf ((([] : List (Int)).length + s_.length) * 1 ≤ 70368744177664) (
      some ((([] : List (Int)) ++ s_), ())
      )
    ) := (hideF_eq _).trans (by kernel_rfl)
theorem phi (n : Nat) : ∀ e ∈ (X n).c.Φ, EntryOk Tryz.prog e := allE_nil
theorem ok (n : Nat) : FnOk Tryz.prog 112 ia io (fRun (X n) n T Tryz.f112 ia io) := tree_ok mixed tabIs (phi n) Tryz.func112 (by kernel_rfl) rfl
noncomputable def en (n : Nat) : Entry := mkEntry 112 ia io (fRun (X n) n T Tryz.f112 ia io)
end F_slices_Clone_byte
end Go.Proofs.YtcpkhpboemfglaaGreatDoor


namespace Go.Proofs.YtcpkhpboemfglaaGreatDoor
open Go Go.Va Go.Proofs
/- (*chartulary/pack.Writer).Out -/
namespace F_pack_Writer_Out
abbrev ia : List Ai := [.ptr (.p (.r 0 (.int .u8)) (.d .unit))]
abbrev io : List (Nat × Oi) := [(2, .dat (.slice (.int .u8)))]
abbrev R : Type := DOut ia io
noncomputable def X (n : Nat) : Ctx := ⟨⟨tab, [F_slices_Clip_byte.en n, F_slices_Clone_byte.en n], 0, []⟩, 11, bnOf 0 ia⟩
noncomputable def T : CT := .o
noncomputable def f (n : Nat) (w_ : D_pack_Writer) : Option R := fRun (X n) n T Tryz.f39 ia io (w_, ())
theorem e0 (n : Nat) (w_ : D_pack_Writer) : f n w_ =
  bIf ((hide false)) (
    some ([], (w_.1, w_.2), ())
    ) (
    bnd (F_slices_Clone_byte.f n w_.1) fun u1 =>
    bnd (F_slices_Clip_byte.f n u1.1) fun u2 =>
    some (u2.1, (w_.1, w_.2), ())
    ) := (hideF_eq _).trans (by kernel_rfl)
theorem phi (n : Nat) : ∀ e ∈ (X n).c.Φ, EntryOk Tryz.prog e := allE_cons (mkEntry_ok (F_slices_Clip_byte.ok n)) (allE_cons (mkEntry_ok (F_slices_Clone_byte.ok n)) (allE_nil))
theorem ok (n : Nat) : FnOk Tryz.prog 39 ia io (fRun (X n) n T Tryz.f39 ia io) := tree_ok mixed tabIs (phi n) Tryz.func39 (by kernel_rfl) rfl
noncomputable def en (n : Nat) : Entry := mkEntry 39 ia io (fRun (X n) n T Tryz.f39 ia io)
end F_pack_Writer_Out
end Go.Proofs.YtcpkhpboemfglaaGreatDoor


namespace Go.Proofs.YtcpkhpboemfglaaGreatDoor
open Go Go.Va Go.Proofs
/- chartulary/entry.Encode$1 -/
namespace F_entry_Encode_1
abbrev ia : List Ai := [.dat T_api_Entry]
abbrev io : List (Nat × Oi) := [(2, .dat .bool)]
abbrev R : Type := DOut ia io
noncomputable def X (n : Nat) : Ctx := ⟨⟨tab, [F_entry_Sound.en n], 0, []⟩, 6, bnOf 0 ia⟩
noncomputable def T : CT := .o
noncomputable def f (n : Nat) (e_ : D_api_Entry) : Option R := fRun (X n) n T Tryz.f35 ia io (e_, ())
theorem e0 (n : Nat) (e_ : D_api_Entry) : f n e_ =
  bnd (F_entry_Sound.f n e_) fun u1 =>
  some ((!u1.1), ()) := (hideF_eq _).trans (by kernel_rfl)
theorem phi (n : Nat) : ∀ e ∈ (X n).c.Φ, EntryOk Tryz.prog e := allE_cons (mkEntry_ok (F_entry_Sound.ok n)) (allE_nil)
theorem ok (n : Nat) : FnOk Tryz.prog 35 ia io (fRun (X n) n T Tryz.f35 ia io) := tree_ok mixed tabIs (phi n) Tryz.func35 (by kernel_rfl) rfl
noncomputable def en (n : Nat) : Entry := mkEntry 35 ia io (fRun (X n) n T Tryz.f35 ia io)
end F_entry_Encode_1
end Go.Proofs.YtcpkhpboemfglaaGreatDoor


namespace Go.Proofs.YtcpkhpboemfglaaGreatDoor
open Go Go.Va Go.Proofs
/- slices.IndexFunc[[]chartulary/api.Entry,chartulary/api.Entry] -/
namespace F_slices_IndexFunc_Entry
abbrev ia : List Ai := [.dat (.slice T_api_Entry), .fn (.fn 35) []]
abbrev io : List (Nat × Oi) := [(4, .dat (.int .i64))]
abbrev R : Type := DOut ia io
noncomputable def X (n : Nat) : Ctx := ⟨⟨tab, [F_entry_Encode_1.en n], 0, []⟩, 19, bnOf 0 ia⟩
abbrev g1 : List Si := [.dat 0 (.slice T_api_Entry), .clo 1 (.fn 35) [], .dat 7 (.int .i64), .dat 8 (.int .i64)]
abbrev g2 : List Si := []
noncomputable def T : CT := (.s .o (.s (.s .o (.b (.l g1 .o))) (.r g2 .o)))
noncomputable def J1 (n : Nat) (m : Nat) : (List (D_api_Entry)) × Int × Int × Unit → Option R := jL (X n) n T (bodyOf Tryz.f100) (endK ia io) g1 [1, 0, 1, 0] [] m
noncomputable def J2 (n : Nat) : Unit → Option R := jR (X n) n T (bodyOf Tryz.f100) (endK ia io) g2 [1, 1] []
noncomputable def f (n : Nat) (s_ : List (D_api_Entry)) : Option R := fRun (X n) n T Tryz.f100 ia io (s_, ())
theorem e0 (n : Nat) (s_ : List (D_api_Entry)) : f n s_ =
  J1 n n (s_, ((s_.length : Nat) : Int), 0, ()) := (hideF_eq _).trans (by kernel_rfl)
theorem e1 (n m : Nat) (s_ : List (D_api_Entry)) (t7 : Int) (t8 : Int) : J1 n (m + 1) (s_, t7, t8, ()) =
  bIf ((hide (decide (t8 < t7)))) (
    gIf (0 ≤ t8 ∧ t8 < ((s_.length : Nat) : Int)) (
      bnd (F_entry_Encode_1.f n (List.getD s_ t8.toNat (Va.dflt T_api_Entry))) fun u1 =>
      bIf (u1.1) (
        some (t8, ())
        ) (
        J1 n m (s_, t7, (IntKind.i64.wrap (t8 + (1 : Int))), ())
        )
      )
    ) (
    J2 n (())
    ) := (hideF_eq _).trans (by kernel_rfl)
theorem e2 (n : Nat) : J2 n (()) =
  some ((-1), ()) := (hideF_eq _).trans (by kernel_rfl)
theorem phi (n : Nat) : ∀ e ∈ (X n).c.Φ, EntryOk Tryz.prog e := allE_cons (mkEntry_ok (F_entry_Encode_1.ok n)) (allE_nil)
theorem ok (n : Nat) : FnOk Tryz.prog 100 ia io (fRun (X n) n T Tryz.f100 ia io) := tree_ok mixed tabIs (phi n) Tryz.func100 (by kernel_rfl) rfl
noncomputable def en (n : Nat) : Entry := mkEntry 100 ia io (fRun (X n) n T Tryz.f100 ia io)
end F_slices_IndexFunc_Entry
end Go.Proofs.YtcpkhpboemfglaaGreatDoor


namespace Go.Proofs.YtcpkhpboemfglaaGreatDoor
open Go Go.Va Go.Proofs
/- slices.ContainsFunc[[]chartulary/api.Entry,chartulary/api.Entry] -/
namespace F_slices_ContainsFunc_Entry
abbrev ia : List Ai := [.dat (.slice T_api_Entry), .fn (.fn 35) []]
abbrev io : List (Nat × Oi) := [(4, .dat .bool)]
abbrev R : Type := DOut ia io
noncomputable def X (n : Nat) : Ctx := ⟨⟨tab, [F_slices_IndexFunc_Entry.en n], 0, []⟩, 9, bnOf 0 ia⟩
noncomputable def T : CT := .o
noncomputable def f (n : Nat) (s_ : List (D_api_Entry)) : Option R := fRun (X n) n T Tryz.f34 ia io (s_, ())
theorem e0 (n : Nat) (s_ : List (D_api_Entry)) : f n s_ =
  bnd (F_slices_IndexFunc_Entry.f n s_) fun u1 =>
  some ((hide (decide (u1.1 ≥ (0 : Int)))), ()) := (hideF_eq _).trans (by kernel_rfl)
theorem phi (n : Nat) : ∀ e ∈ (X n).c.Φ, EntryOk Tryz.prog e := allE_cons (mkEntry_ok (F_slices_IndexFunc_Entry.ok n)) (allE_nil)
theorem ok (n : Nat) : FnOk Tryz.prog 34 ia io (fRun (X n) n T Tryz.f34 ia io) := tree_ok mixed tabIs (phi n) Tryz.func34 (by kernel_rfl) rfl
noncomputable def en (n : Nat) : Entry := mkEntry 34 ia io (fRun (X n) n T Tryz.f34 ia io)
end F_slices_ContainsFunc_Entry
end Go.Proofs.YtcpkhpboemfglaaGreatDoor


namespace Go.Proofs.YtcpkhpboemfglaaGreatDoor
open Go Go.Va Go.Proofs
/- chartulary/entry.Encode -/
namespace F_entry_Encode
abbrev ia : List Ai := [.dat (.slice T_api_Entry)]
abbrev io : List (Nat × Oi) := [(2, .dat (.slice (.int .u8))), (3, .dat (.int .i64))]
abbrev R : Type := DOut ia io
noncomputable def X (n : Nat) : Ctx := ⟨⟨tab, [F_slices_ContainsFunc_Entry.en n, F_entry_NewWriter.en n, F_pack_Writer_Num.en n, F_entry_Writer_entry.en n, F_pack_Writer_Out.en n], 0, []⟩, 42, bnOf 0 ia⟩
abbrev g1 : List Si := [.dat 0 (.slice T_api_Entry)]
abbrev g2 : List Si := [.ref 4 4 T_entry_Reader, .dat 25 (.slice T_api_Entry), .dat 26 (.int .i64), .dat 27 (.int .i64), .box 4 (.p (.al 1500000000018 T_pack_Writer) (.d .unit)), .box 1500000000018 (.p (.r 1600000000018000 (.int .u8)) (.d .unit))]
abbrev g3 : List Si := [.ref 4 4 T_entry_Reader, .box 4 (.p (.al 1500000000018 T_pack_Writer) (.d .unit)), .box 1500000000018 (.p (.r 1600000000018000 (.int .u8)) (.d .unit))]
noncomputable def T : CT := (.s .o (.s .o (.r g1 (.s .o (.s .o (.s .o (.s (.s .o (.b (.l g2 .o))) (.r g3 .o))))))))
noncomputable def J1 (n : Nat) : (List (D_api_Entry)) × Unit → Option R := jR (X n) n T (bodyOf Tryz.f13) (endK ia io) g1 [1, 1] []
noncomputable def J2 (n : Nat) (m : Nat) : (List (D_api_Entry)) × Int × Int × D_entry_Reader × D_pack_Writer × Unit → Option R := jL (X n) n T (bodyOf Tryz.f13) (endK ia io) g2 [1, 1, 1, 1, 1, 0, 1, 0] [] m
noncomputable def J3 (n : Nat) : D_entry_Reader × D_pack_Writer × Unit → Option R := jR (X n) n T (bodyOf Tryz.f13) (endK ia io) g3 [1, 1, 1, 1, 1, 1] []
noncomputable def f (n : Nat) (list : List (D_api_Entry)) : Option R := fRun (X n) n T Tryz.f13 ia io (list, ())
theorem e0 (n : Nat) (list : List (D_api_Entry)) : f n list =
  bIf ((hide (((list.length : Nat) : Int) == (0 : Int)))) (
    some ([], 9, ())
    ) (
    bIf ((hide (decide (((list.length : Nat) : Int) > (8 : Int))))) (
      some ([], 9, ())
      ) (
      J1 n (list, ())
      )
    ) := (hideF_eq _).trans (by kernel_rfl)
theorem e1 (n : Nat) (list : List (D_api_Entry)) : J1 n (list, ()) =
  bnd (F_slices_ContainsFunc_Entry.f n list) fun u1 =>
  bIf (u1.1) (
    some ([], 2, ())
    ) (
    bnd (F_entry_NewWriter.f n) fun u2 =>
    bnd (F_pack_Writer_Num.f n (u2.1.1, u2.1.2) (IntKind.u64.wrap ((list.length : Nat) : Int))) fun u3 =>
    J2 n n (list, ((list.length : Nat) : Int), 0, ((), ()), (u3.1.1, u3.1.2), ())
    ) := (hideF_eq _).trans (by kernel_rfl)
theorem e2 (n m : Nat) (t25 : List (D_api_Entry)) (t26 : Int) (t27 : Int) (w_ : D_entry_Reader) (b1500000000018 : D_pack_Writer) : J2 n (m + 1) (t25, t26, t27, w_, b1500000000018, ()) =
  bIf ((hide (decide (t27 < t26)))) (
    gIf (0 ≤ t27 ∧ t27 < ((t25.length : Nat) : Int)) (
      bnd (F_entry_Writer_entry.f n (b1500000000018.1, b1500000000018.2) (List.getD t25 t27.toNat (Va.dflt T_api_Entry))) fun u1 =>
      J2 n m (t25, t26, (IntKind.i64.wrap (t27 + (1 : Int))), ((), w_.2), (u1.1.1, u1.1.2), ())
      )
    ) (
    J3 n (((), w_.2), (b1500000000018.1, b1500000000018.2), ())
    ) := (hideF_eq _).trans (by kernel_rfl)
theorem e3 (n : Nat) (w_ : D_entry_Reader) (b1500000000018 : D_pack_Writer) : J3 n (w_, b1500000000018, ()) =
  bnd (F_pack_Writer_Out.f n (b1500000000018.1, b1500000000018.2)) fun u1 =>
  bIf ((hide (decide (((u1.1.length : Nat) : Int) > (16384 : Int))))) (
    some ([], 17, ())
    ) (
    some (u1.1, 0, ())
    ) := (hideF_eq _).trans (by kernel_rfl)
theorem phi (n : Nat) : ∀ e ∈ (X n).c.Φ, EntryOk Tryz.prog e := allE_cons (mkEntry_ok (F_slices_ContainsFunc_Entry.ok n)) (allE_cons (mkEntry_ok (F_entry_NewWriter.ok n)) (allE_cons (mkEntry_ok (F_pack_Writer_Num.ok n)) (allE_cons (mkEntry_ok (F_entry_Writer_entry.ok n)) (allE_cons (mkEntry_ok (F_pack_Writer_Out.ok n)) (allE_nil)))))
theorem ok (n : Nat) : FnOk Tryz.prog 13 ia io (fRun (X n) n T Tryz.f13 ia io) := tree_ok mixed tabIs (phi n) Tryz.func13 (by kernel_rfl) rfl
noncomputable def en (n : Nat) : Entry := mkEntry 13 ia io (fRun (X n) n T Tryz.f13 ia io)
end F_entry_Encode
end Go.Proofs.YtcpkhpboemfglaaGreatDoor

