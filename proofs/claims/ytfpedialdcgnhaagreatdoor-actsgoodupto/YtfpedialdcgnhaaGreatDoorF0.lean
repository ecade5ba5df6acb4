/-
  What the functions compute, by the abstract interpreter.
-/
import Derived.Test.YtfpedialdcgnhaaGreatDoorVaTree
import Derived.Test.YtfpedialdcgnhaaGreatDoorChecked
import Derived.Lib.LaidU8T
import Derived.Test.YtfpedialdcgnhaaGreatDoorVaLeaf
import Derived.Shelf.Unicode.ValidAny
import Derived.Shelf.Small.Strs
import Derived.Shelf.Strings.Split
import Derived.Shelf.Strings.SlTrimAscii
import Derived.Test.YtfpedialdcgnhaaGreatDoorCoEnd
set_option linter.unusedVariables false
set_option linter.unusedSimpArgs false
namespace Go.Proofs.YtfpedialdcgnhaaGreatDoor
open Go Go.Va Go.Proofs
abbrev T_api_Tag : Ty := (.pair .str (.pair .str .unit))
abbrev D_api_Tag : Type := ByteArray × ByteArray × Unit
abbrev T_runtime_errorAddressString : Ty := (.pair .str (.pair (.int .u64) .unit))
abbrev T_unicode_utf8_acceptRange : Ty := (.pair (.int .u8) (.pair (.int .u8) .unit))
abbrev T_glob_piece : Ty := (.pair (.int .i64) (.pair (.int .u8) .unit))
abbrev D_glob_piece : Type := Int × Int × Unit
abbrev T_api_Default : Ty := (.pair (.int .i64) (.pair (.int .i64) .unit))
abbrev D_api_Default : Type := Int × Int × Unit
abbrev T_grant_ask : Ty := (.pair .str T_api_Tag)
abbrev T_api_Spot : Ty := (.pair .str T_runtime_errorAddressString)
abbrev D_api_Spot : Type := ByteArray × ByteArray × Int × Unit
abbrev T_api_Lock : Ty := (.pair (.int .i64) (.pair (.int .i64) (.pair .bool .unit)))
abbrev D_api_Lock : Type := Int × Int × Bool × Unit
abbrev T_api_Grant : Ty := (.pair .bool T_grant_ask)
abbrev D_api_Grant : Type := Bool × ByteArray × ByteArray × ByteArray × Unit
abbrev T_acts_Got : Ty := (.pair (.int .u64) (.pair (.int .i64) (.pair (.arr 32 (.int .u8)) .unit)))
abbrev T_api_Part : Ty := (.pair (.int .i64) (.pair (.int .i64) (.pair (.int .u64) (.pair (.arr 32 (.int .u8)) .unit))))
abbrev D_api_Part : Type := Int × Int × Int × (List (Int)) × Unit
abbrev T_count_Use : Ty := (.pair (.int .u64) (.pair (.int .i64) (.pair (.int .i64) (.pair (.arr 32 (.int .u8)) .unit))))
abbrev T_api_Rule : Ty := (.pair .str (.pair (.slice T_api_Tag) T_api_Lock))
abbrev D_api_Rule : Type := ByteArray × (List (D_api_Tag)) × Int × Int × Bool × Unit
abbrev T_api_Upload : Ty := (.pair (.int .u64) (.pair .str (.pair (.slice T_api_Tag) (.pair (.slice T_api_Part) .unit))))
abbrev D_api_Upload : Type := Int × ByteArray × (List (D_api_Tag)) × (List (D_api_Part)) × Unit
abbrev T_api_Version : Ty := (.pair (.int .u64) (.pair .bool (.pair (.int .i64) (.pair (.int .u64) (.pair (.arr 32 (.int .u8)) (.pair (.int .i64) (.pair T_api_Lock (.pair (.slice T_api_Tag) .unit))))))))
abbrev D_api_Version : Type := Int × Bool × Int × Int × (List (Int)) × Int × D_api_Lock × (List (D_api_Tag)) × Unit
abbrev T_api_Object : Ty := (.pair .str (.pair (.slice T_api_Version) .unit))
abbrev D_api_Object : Type := ByteArray × (List (D_api_Version)) × Unit
abbrev T_api_Row : Ty := (.pair .str (.pair .bool (.pair T_api_Version (.pair .bool .unit))))
abbrev T_list_page : Ty := (.pair (.slice T_api_Row) (.pair (.int .i64) (.pair .bool .unit)))
abbrev T_api_Request : Ty := (.pair (.int .i64) (.pair .str (.pair .str (.pair .str (.pair (.int .u64) (.pair (.slice (.int .u8)) (.pair (.slice T_api_Tag) (.pair T_api_Lock (.pair .bool (.pair T_api_Default (.pair (.slice T_api_Rule) (.pair (.slice T_api_Grant) (.pair (.int .i64) (.pair (.slice (.int .i64)) (.pair .str (.pair .str (.pair .str (.pair T_api_Spot (.pair (.int .i64) .unit)))))))))))))))))))
abbrev D_api_Request : Type := Int × ByteArray × ByteArray × ByteArray × Int × (List (Int)) × (List (D_api_Tag)) × D_api_Lock × Bool × D_api_Default × (List (D_api_Rule)) × (List (D_api_Grant)) × Int × (List (Int)) × ByteArray × ByteArray × ByteArray × D_api_Spot × Int × Unit
abbrev T_api_Reply : Ty := (.pair (.int .i64) (.pair (.int .u64) (.pair (.slice (.int .u8)) (.pair T_api_Version (.pair (.slice T_api_Row) (.pair .bool (.pair (.slice (.int .i64)) (.pair (.slice .str) .unit))))))))
abbrev T_acts_strip : Ty := (.pair T_api_Request (.pair .bool .unit))
abbrev D_acts_strip : Type := D_api_Request × Bool × Unit
abbrev T_api_Bucket : Ty := (.pair .str (.pair T_api_Default (.pair (.slice T_api_Rule) (.pair (.slice T_api_Grant) (.pair (.slice T_api_Object) (.pair (.slice T_api_Upload) .unit))))))
abbrev D_api_Bucket : Type := ByteArray × D_api_Default × (List (D_api_Rule)) × (List (D_api_Grant)) × (List (D_api_Object)) × (List (D_api_Upload)) × Unit
abbrev T_api_Entry : Ty := (.pair (.int .i64) (.pair (.int .i64) (.pair .str (.pair .str (.pair (.int .u64) (.pair T_api_Version (.pair T_api_Lock (.pair (.slice T_api_Tag) (.pair T_api_Default (.pair (.slice T_api_Rule) (.pair (.slice T_api_Grant) (.pair T_api_Part .unit))))))))))))
abbrev D_api_Entry : Type := Int × Int × ByteArray × ByteArray × Int × D_api_Version × D_api_Lock × (List (D_api_Tag)) × D_api_Default × (List (D_api_Rule)) × (List (D_api_Grant)) × D_api_Part × Unit
abbrev T_api_State : Ty := (.pair (.int .i64) (.pair (.int .u64) (.pair (.int .u64) (.pair (.slice T_api_Bucket) .unit))))
abbrev D_api_State : Type := Int × Int × Int × (List (D_api_Bucket)) × Unit
abbrev T_meta_draft : Ty := (.pair T_api_State .unit)
abbrev T_meta_census : Ty := (.pair T_api_State (.pair (.int .i64) (.pair (.opq 2) .unit)))
abbrev T_acts_Step : Ty := (.pair (.slice T_api_Entry) (.pair T_api_Reply (.pair (.int .u64) .unit)))
abbrev T_acts_plan : Ty := (.pair T_api_State (.pair T_api_Request (.pair (.int .i64) (.pair T_acts_Got (.pair T_api_Bucket (.pair T_api_Upload (.pair T_acts_Step (.pair (.int .i64) .unit))))))))
noncomputable def tab : List (Nat × TE) := [(2, ⟨(.int .i64), 0⟩), (3, ⟨(.int .i64), 0⟩), (4, ⟨.bool, 0⟩), (5, ⟨(.int .u8), 0⟩), (9, ⟨.str, 0⟩), (12, ⟨(.int .u64), 0⟩), (21, ⟨(.int .i32), 0⟩), (22, ⟨(.int .u64), 0⟩), (23, ⟨(.slice (.int .u8)), 1⟩), (24, ⟨(.slice T_api_Tag), 32⟩), (25, ⟨T_api_Lock, 0⟩), (26, ⟨T_api_Lock, 0⟩), (27, ⟨T_api_Default, 0⟩), (28, ⟨T_api_Default, 0⟩), (29, ⟨(.slice T_api_Rule), 64⟩), (30, ⟨(.slice T_api_Grant), 56⟩), (31, ⟨(.slice (.int .i64)), 8⟩), (32, ⟨T_api_Spot, 0⟩), (33, ⟨T_api_Spot, 0⟩), (34, ⟨T_api_Request, 0⟩), (35, ⟨T_api_Request, 0⟩), (36, ⟨(.slice T_api_Bucket), 128⟩), (37, ⟨T_api_State, 0⟩), (38, ⟨T_api_State, 0⟩), (43, ⟨(.int .i64), 0⟩), (47, ⟨(.arr 32 (.int .u8)), 0⟩), (48, ⟨(.arr 32 (.int .u8)), 0⟩), (49, ⟨T_api_Version, 0⟩), (50, ⟨T_api_Version, 0⟩), (51, ⟨T_api_Part, 0⟩), (52, ⟨T_api_Part, 0⟩), (53, ⟨T_api_Entry, 0⟩), (54, ⟨T_api_Entry, 0⟩), (55, ⟨(.slice T_api_Entry), 344⟩), (56, ⟨(.slice T_api_Row), 152⟩), (57, ⟨(.slice .str), 16⟩), (58, ⟨T_api_Reply, 0⟩), (59, ⟨T_api_Reply, 0⟩), (60, ⟨T_acts_Step, 0⟩), (61, ⟨T_acts_Step, 0⟩), (64, ⟨T_acts_Got, 0⟩), (65, ⟨T_acts_Got, 0⟩), (68, ⟨(.opq 0), 0⟩), (69, ⟨T_acts_strip, 0⟩), (70, ⟨T_acts_strip, 0⟩), (82, ⟨(.opq 0), 0⟩), (84, ⟨T_meta_draft, 0⟩), (85, ⟨T_meta_draft, 0⟩), (87, ⟨(.opq 0), 0⟩), (88, ⟨(.slice T_api_Object), 40⟩), (89, ⟨(.slice T_api_Upload), 72⟩), (90, ⟨T_api_Bucket, 0⟩), (91, ⟨T_api_Bucket, 0⟩), (92, ⟨(.slice T_api_Part), 56⟩), (93, ⟨T_api_Upload, 0⟩), (94, ⟨T_api_Upload, 0⟩), (95, ⟨T_acts_plan, 0⟩), (96, ⟨T_acts_plan, 0⟩), (103, ⟨T_api_Tag, 0⟩), (104, ⟨T_api_Tag, 0⟩), (105, ⟨T_api_Rule, 0⟩), (106, ⟨T_api_Rule, 0⟩), (107, ⟨T_api_Grant, 0⟩), (108, ⟨T_api_Grant, 0⟩), (111, ⟨(.opq 1), 0⟩), (112, ⟨(.opq 0), 0⟩), (113, ⟨(.opq 2), 0⟩), (114, ⟨T_meta_census, 0⟩), (115, ⟨T_meta_census, 0⟩), (117, ⟨(.opq 1), 0⟩), (123, ⟨(.opq 0), 0⟩), (128, ⟨(.slice T_api_Spot), 40⟩), (138, ⟨(.arr 256 (.int .u8)), 0⟩), (139, ⟨T_unicode_utf8_acceptRange, 0⟩), (140, ⟨T_unicode_utf8_acceptRange, 0⟩), (141, ⟨(.arr 16 T_unicode_utf8_acceptRange), 0⟩), (142, ⟨(.int .u64), 0⟩), (147, ⟨(.opq 1), 0⟩), (149, ⟨(.opq 1), 0⟩), (150, ⟨(.slice T_glob_piece), 16⟩), (155, ⟨(.slice T_api_Version), 120⟩), (156, ⟨T_api_Object, 0⟩), (157, ⟨T_api_Object, 0⟩), (158, ⟨(.opq 1), 0⟩), (160, ⟨(.opq 1), 0⟩), (162, ⟨(.opq 1), 0⟩), (164, ⟨(.opq 1), 0⟩), (184, ⟨(.opq 1), 0⟩), (193, ⟨(.opq 1), 0⟩), (195, ⟨(.slice T_count_Use), 56⟩), (197, ⟨T_count_Use, 0⟩), (198, ⟨T_count_Use, 0⟩), (217, ⟨(.arr 256 .bool), 0⟩), (218, ⟨(.arr 256 .bool), 0⟩), (222, ⟨(.opq 0), 0⟩), (225, ⟨(.slice T_glob_piece), 16⟩), (229, ⟨T_glob_piece, 0⟩), (230, ⟨T_glob_piece, 0⟩), (236, ⟨(.opq 1), 0⟩), (239, ⟨(.opq 1), 0⟩), (258, ⟨(.slice T_acts_Got), 48⟩), (260, ⟨T_acts_Got, 0⟩), (261, ⟨T_acts_Got, 0⟩), (263, ⟨(.opq 1), 0⟩), (265, ⟨T_grant_ask, 0⟩), (266, ⟨T_grant_ask, 0⟩), (273, ⟨(.opq 0), 0⟩), (274, ⟨T_list_page, 0⟩), (275, ⟨T_list_page, 0⟩), (277, ⟨T_api_Row, 0⟩), (278, ⟨T_api_Row, 0⟩), (287, ⟨T_glob_piece, 0⟩), (288, ⟨T_glob_piece, 0⟩), (291, ⟨(.opq 1), 0⟩), (301, ⟨(.int .u32), 0⟩), (305, ⟨(.arr 2 .str), 0⟩), (306, ⟨(.slice (.arr 2 .str)), 32⟩), (317, ⟨(.int .u64), 0⟩), (321, ⟨(.opq 0), 0⟩)]
noncomputable def firstCells : List Value := Lib.firstTab.map fun z => Value.int .u8 z
noncomputable def acceptCells : List Value := (List.range 16).flatMap fun i => [Value.int .u8 (Lib.accLo i), Value.int .u8 (Lib.accHi i)]
noncomputable instance : Gl := ⟨[(0, fun cs => cs = firstCells), (1, fun cs => cs = acceptCells), (2, fun cs => ∃ m, cs = [.int .i64 m])], []⟩
theorem tabIs : TabOk Tryz.prog tab := tabB_ok (by kernel_rfl)
theorem mixed : Tryz.prog.follows .mixedOrders = true := Tryz.checked.mixed
end Go.Proofs.YtfpedialdcgnhaaGreatDoor
namespace Go.Proofs
open Go.Shelf
def Tryz.l146_ren : Go.Shelf.Ren := ⟨fun | 146 => 93 | 221 => 160 | 268 => 231 | 138 => 232 | 143 => 233 | 195 => 267 | 197 => 235 | 218 => 268 | 219 => 269 | 260 => 270 | 217 => 168 | 225 => 295 | 224 => 296 | 267 => 297 | 266 => 238 | 314 => 305 | n => n, fun | 9 => 9 | 31 => 57 | 3 => 3 | 4 => 4 | 0 => 0 | 105 => 284 | 21 => 21 | 5 => 5 | 46 => 142 | 119 => 138 | 139 => 141 | 138 => 140 | 146 => 340 | 51 => 301 | n => n, fun | 1 => 2 | 3 => 0 | 4 => 1 | n => n⟩
theorem Tryz.l146 : Go.Proofs.Lays.n146 Tryz.prog Tryz.l146_ren := {
  mixed := by kernel_rfl
  f138 := Tryz.func232.trans (congrArg some (by kernel_rfl))
  f143 := Tryz.func233.trans (congrArg some (by kernel_rfl))
  f146 := Tryz.func93.trans (congrArg some (by kernel_rfl))
  f195 := Tryz.func267.trans (congrArg some (by kernel_rfl))
  f197 := Tryz.func235.trans (congrArg some (by kernel_rfl))
  f217 := Tryz.func168.trans (congrArg some (by kernel_rfl))
  f218 := Tryz.func268.trans (congrArg some (by kernel_rfl))
  f219 := Tryz.func269.trans (congrArg some (by kernel_rfl))
  f221 := Tryz.func160.trans (congrArg some (by kernel_rfl))
  f224 := Tryz.func296.trans (congrArg some (by kernel_rfl))
  f225 := Tryz.func295.trans (congrArg some (by kernel_rfl))
  f260 := Tryz.func270.trans (congrArg some (by kernel_rfl))
  f266 := Tryz.func238.trans (congrArg some (by kernel_rfl))
  f267 := Tryz.func297.trans (congrArg some (by kernel_rfl))
  f268 := Tryz.func231.trans (congrArg some (by kernel_rfl))
  f314 := Tryz.func305.trans (congrArg some (by kernel_rfl))
  t0 := Tryz.underlying0
  a0 := Tryz.isAgg0
  z0 := Tryz.sizeOf0
  v0 := Tryz.zeroValue0
  t3 := Tryz.underlying3
  a3 := Tryz.isAgg3
  z3 := Tryz.sizeOf3
  v3 := Tryz.zeroValue3
  t4 := Tryz.underlying4
  a4 := Tryz.isAgg4
  z4 := Tryz.sizeOf4
  v4 := Tryz.zeroValue4
  t5 := Tryz.underlying5
  a5 := Tryz.isAgg5
  z5 := Tryz.sizeOf5
  v5 := Tryz.zeroValue5
  t9 := Tryz.underlying9
  a9 := Tryz.isAgg9
  z9 := Tryz.sizeOf9
  v9 := Tryz.zeroValue9
  t21 := Tryz.underlying21
  a21 := Tryz.isAgg21
  z21 := Tryz.sizeOf21
  v21 := Tryz.zeroValue21
  t31 := Tryz.underlying57
  a31 := Tryz.isAgg57
  z31 := Tryz.sizeOf57
  v31 := Tryz.zeroValue57
  t46 := Tryz.underlying142
  a46 := Tryz.isAgg142
  z46 := Tryz.sizeOf142
  v46 := Tryz.zeroValue142
  t51 := Tryz.underlying301
  a51 := Tryz.isAgg301
  z51 := Tryz.sizeOf301
  v51 := Tryz.zeroValue301
  t105 := Tryz.underlying284
  a105 := Tryz.isAgg284
  z105 := Tryz.sizeOf284
  v105 := Tryz.zeroValue284
  t119 := Tryz.underlying138
  a119 := Tryz.isAgg138
  z119 := Tryz.sizeOf138
  t138 := Tryz.underlying140
  a138 := Tryz.isAgg140
  z138 := Tryz.sizeOf140
  v138 := Tryz.zeroValue140
  t139 := Tryz.underlying141
  a139 := Tryz.isAgg141
  z139 := Tryz.sizeOf141
  v139 := Tryz.zeroValue141
  t146 := Tryz.underlying340
  a146 := Tryz.isAgg340
  z146 := Tryz.sizeOf340
  v146 := Tryz.zeroValue340
  g1 := by kernel_rfl
  g3 := by kernel_rfl
  g4 := by kernel_rfl }
def Tryz.l160_ren : Go.Shelf.Ren := ⟨fun | 160 => 94 | 232 => 162 | 231 => 161 | 227 => 163 | 234 => 165 | 233 => 164 | 236 => 167 | 235 => 166 | 228 => 234 | 271 => 237 | 151 => 236 | 197 => 235 | 120 => 272 | 152 => 271 | 260 => 270 | 137 => 95 | 119 => 298 | 224 => 296 | 225 => 295 | 217 => 168 | 266 => 238 | n => n, fun | 9 => 9 | 4 => 4 | 3 => 3 | 5 => 5 | 117 => 219 | 116 => 218 | 0 => 0 | 124 => 222 | 21 => 21 | 105 => 284 | 46 => 142 | 119 => 138 | 139 => 141 | 138 => 140 | n => n, fun | 3 => 0 | 4 => 1 | n => n⟩
theorem Tryz.l160 : Go.Proofs.Lays.n160 Tryz.prog Tryz.l160_ren := {
  mixed := by kernel_rfl
  f119 := Tryz.func298.trans (congrArg some (by kernel_rfl))
  f120 := Tryz.func272.trans (congrArg some (by kernel_rfl))
  f137 := Tryz.func95.trans (congrArg some (by kernel_rfl))
  f151 := Tryz.func236.trans (congrArg some (by kernel_rfl))
  f152 := Tryz.func271.trans (congrArg some (by kernel_rfl))
  f160 := Tryz.func94.trans (congrArg some (by kernel_rfl))
  f197 := Tryz.func235.trans (congrArg some (by kernel_rfl))
  f217 := Tryz.func168.trans (congrArg some (by kernel_rfl))
  f224 := Tryz.func296.trans (congrArg some (by kernel_rfl))
  f225 := Tryz.func295.trans (congrArg some (by kernel_rfl))
  f227 := Tryz.func163.trans (congrArg some (by kernel_rfl))
  f228 := Tryz.func234.trans (congrArg some (by kernel_rfl))
  f231 := Tryz.func161.trans (congrArg some (by kernel_rfl))
  f232 := Tryz.func162.trans (congrArg some (by kernel_rfl))
  f233 := Tryz.func164.trans (congrArg some (by kernel_rfl))
  f234 := Tryz.func165.trans (congrArg some (by kernel_rfl))
  f235 := Tryz.func166.trans (congrArg some (by kernel_rfl))
  f236 := Tryz.func167.trans (congrArg some (by kernel_rfl))
  f260 := Tryz.func270.trans (congrArg some (by kernel_rfl))
  f266 := Tryz.func238.trans (congrArg some (by kernel_rfl))
  f271 := Tryz.func237.trans (congrArg some (by kernel_rfl))
  t0 := Tryz.underlying0
  a0 := Tryz.isAgg0
  z0 := Tryz.sizeOf0
  v0 := Tryz.zeroValue0
  t3 := Tryz.underlying3
  a3 := Tryz.isAgg3
  z3 := Tryz.sizeOf3
  v3 := Tryz.zeroValue3
  t4 := Tryz.underlying4
  a4 := Tryz.isAgg4
  z4 := Tryz.sizeOf4
  v4 := Tryz.zeroValue4
  t5 := Tryz.underlying5
  a5 := Tryz.isAgg5
  z5 := Tryz.sizeOf5
  v5 := Tryz.zeroValue5
  t9 := Tryz.underlying9
  a9 := Tryz.isAgg9
  z9 := Tryz.sizeOf9
  v9 := Tryz.zeroValue9
  t21 := Tryz.underlying21
  a21 := Tryz.isAgg21
  z21 := Tryz.sizeOf21
  v21 := Tryz.zeroValue21
  t46 := Tryz.underlying142
  a46 := Tryz.isAgg142
  z46 := Tryz.sizeOf142
  v46 := Tryz.zeroValue142
  t105 := Tryz.underlying284
  a105 := Tryz.isAgg284
  z105 := Tryz.sizeOf284
  v105 := Tryz.zeroValue284
  t116 := Tryz.underlying218
  a116 := Tryz.isAgg218
  z116 := Tryz.sizeOf218
  t117 := Tryz.underlying219
  a117 := Tryz.isAgg219
  z117 := Tryz.sizeOf219
  v117 := Tryz.zeroValue219
  t119 := Tryz.underlying138
  a119 := Tryz.isAgg138
  z119 := Tryz.sizeOf138
  t124 := Tryz.underlying222
  a124 := Tryz.isAgg222
  z124 := Tryz.sizeOf222
  v124 := Tryz.zeroValue222
  t138 := Tryz.underlying140
  a138 := Tryz.isAgg140
  z138 := Tryz.sizeOf140
  v138 := Tryz.zeroValue140
  t139 := Tryz.underlying141
  a139 := Tryz.isAgg141
  z139 := Tryz.sizeOf141
  v139 := Tryz.zeroValue141
  g3 := by kernel_rfl
  g4 := by kernel_rfl }
def Tryz.l196_ren : Go.Shelf.Ren := ⟨fun | 196 => 42 | 259 => 92 | n => n, fun | 9 => 9 | 4 => 4 | 3 => 3 | 5 => 5 | 12 => 12 | 119 => 138 | 0 => 0 | 46 => 142 | 139 => 141 | 138 => 140 | 53 => 22 | n => n, fun | 3 => 0 | 4 => 1 | n => n⟩
theorem Tryz.l196 : Go.Proofs.Lays.n196 Tryz.prog Tryz.l196_ren := {
  mixed := by kernel_rfl
  f196 := Tryz.func42.trans (congrArg some (by kernel_rfl))
  f259 := Tryz.func92.trans (congrArg some (by kernel_rfl))
  t0 := Tryz.underlying0
  a0 := Tryz.isAgg0
  z0 := Tryz.sizeOf0
  v0 := Tryz.zeroValue0
  t3 := Tryz.underlying3
  a3 := Tryz.isAgg3
  z3 := Tryz.sizeOf3
  v3 := Tryz.zeroValue3
  t4 := Tryz.underlying4
  a4 := Tryz.isAgg4
  z4 := Tryz.sizeOf4
  v4 := Tryz.zeroValue4
  t5 := Tryz.underlying5
  a5 := Tryz.isAgg5
  z5 := Tryz.sizeOf5
  v5 := Tryz.zeroValue5
  t9 := Tryz.underlying9
  a9 := Tryz.isAgg9
  z9 := Tryz.sizeOf9
  v9 := Tryz.zeroValue9
  t12 := Tryz.underlying12
  a12 := Tryz.isAgg12
  z12 := Tryz.sizeOf12
  v12 := Tryz.zeroValue12
  t46 := Tryz.underlying142
  a46 := Tryz.isAgg142
  z46 := Tryz.sizeOf142
  v46 := Tryz.zeroValue142
  t53 := Tryz.underlying22
  a53 := Tryz.isAgg22
  z53 := Tryz.sizeOf22
  v53 := Tryz.zeroValue22
  t119 := Tryz.underlying138
  a119 := Tryz.isAgg138
  z119 := Tryz.sizeOf138
  t138 := Tryz.underlying140
  a138 := Tryz.isAgg140
  z138 := Tryz.sizeOf140
  v138 := Tryz.zeroValue140
  t139 := Tryz.underlying141
  a139 := Tryz.isAgg141
  z139 := Tryz.sizeOf141
  v139 := Tryz.zeroValue141
  g3 := by kernel_rfl
  g4 := by kernel_rfl }
def Tryz.l137_ren : Go.Shelf.Ren := ⟨fun | 137 => 95 | 217 => 168 | 266 => 238 | n => n, fun | 9 => 9 | 5 => 5 | 3 => 3 | n => n, fun | n => n⟩
theorem Tryz.l137 : Go.Proofs.Lays.n137 Tryz.prog Tryz.l137_ren := {
  mixed := by kernel_rfl
  f137 := Tryz.func95.trans (congrArg some (by kernel_rfl))
  f217 := Tryz.func168.trans (congrArg some (by kernel_rfl))
  f266 := Tryz.func238.trans (congrArg some (by kernel_rfl))
  t3 := Tryz.underlying3
  a3 := Tryz.isAgg3
  z3 := Tryz.sizeOf3
  v3 := Tryz.zeroValue3
  t5 := Tryz.underlying5
  a5 := Tryz.isAgg5
  z5 := Tryz.sizeOf5
  v5 := Tryz.zeroValue5
  t9 := Tryz.underlying9
  a9 := Tryz.isAgg9
  z9 := Tryz.sizeOf9
  v9 := Tryz.zeroValue9 }
end Go.Proofs
namespace Go.Proofs.YtfpedialdcgnhaaGreatDoor
open Go Go.Va Go.Proofs
theorem acc_get : ∀ (i : Nat), i < 16 → acceptCells[2 * i]? = some (Value.int .u8 (Lib.accLo i)) ∧ acceptCells[2 * i + 1]? = some (Value.int .u8 (Lib.accHi i))
  | 0, _ | 1, _ | 2, _ | 3, _ | 4, _ | 5, _ | 6, _ | 7, _ | 8, _ | 9, _ | 10, _ | 11, _ | 12, _ | 13, _ | 14, _ | 15, _ => ⟨rfl, rfl⟩
  | n + 16, h => absurd h (by omega)
theorem utf8Tabs {E : Env} {w : World} (h : GlOk E w) : Lib.Utf8Tabs (Tryz.l196_ren.g 3) (Tryz.l196_ren.g 4) w := by
  obtain ⟨_, c0, e0, h0⟩ := h.1 (0, fun cs => cs = firstCells) (by simp [Gl.tab])
  obtain ⟨_, c1, e1, h1⟩ := h.1 (1, fun cs => cs = acceptCells) (by simp [Gl.tab])
  have e0 : c0 = firstCells := e0
  have e1 : c1 = acceptCells := e1
  subst e0 e1
  have h0 := h0.2
  have h1 := h1.2
  refine ⟨fun c hc => ?_, fun i hi => ?_⟩
  · have := h0 c (by simp [firstCells, Lib.firstTab]; exact hc)
    simp [firstCells, Lib.firstTab] at this
    exact this
  · have hl : acceptCells.length = 32 := by kernel_rfl
    have a0 := h1 (2 * i) (by rw [hl]; omega)
    have a1 := h1 (2 * i + 1) (by rw [hl]; omega)
    obtain ⟨e0, e1⟩ := acc_get i hi
    rw [List.getElem?_eq_getElem (by rw [hl]; omega)] at e0 e1
    simp only [Option.some.injEq] at e0 e1
    simp only [Nat.zero_add] at a0 a1
    rw [e0] at a0
    rw [e1] at a1
    exact ⟨a0, a1⟩
theorem maxLen_cell {E : Env} {w : World} (h : GlOk E w) : ∃ m, w.cell? ⟨Tryz.l146_ren.g 1, 0, none⟩ = some (.int .i64 m) := by
  obtain ⟨_, c, ⟨m, e⟩, h2⟩ := h.1 (2, fun cs => ∃ m, cs = [.int .i64 m]) (by simp [Gl.tab])
  have e : c = [.int .i64 m] := e
  subst e
  have := h2.2 0 (by simp)
  exact ⟨m, this⟩
namespace F_unicode_utf8_ValidString
abbrev ia : List Ai := [.dat .str]
abbrev io : List (Nat × Oi) := [(2, .dat .bool)]
noncomputable def f (s : ByteArray) : Option (DOut ia io) := if s.size ≤ 9223372036854775807 then some (Lib.validD s.data.toList, ()) else none
theorem ok : FnOk Tryz.prog 42 ia io (fun v => f v.1) := by
  refine leaf_ok ⟨Tryz.f42, Tryz.func42, by kernel_rfl, by kernel_rfl⟩ rfl (fun _ => rfl) (fun _ => rfl) (fun v u h E w vals hgl hc => ?_)
  obtain ⟨x, vs, rfl, h1, h3⟩ := hc
  have h3 : vs = [] := h3
  subst h3
  have h1 : x = .string v.1 := V_str.1 h1
  subst h1
  unfold f at h
  split at h
  · next hs =>
    injection h with h
    subst h
    refine (Any.utf8_ValidString Tryz.l196 v.1 w hs (utf8Tabs hgl)).mono ?_
    rintro e w' ⟨rfl, hb⟩
    exact ⟨_, rfl, ⟨hb.os, hb.tape, hb.output, hb.size, hb.block⟩, fun E => V_bool.2 rfl⟩
  · exact absurd h (by simp)
noncomputable def en : Entry := mkEntry 42 ia io (fun v => f v.1)
end F_unicode_utf8_ValidString
namespace F_strings_IndexByte
abbrev ia : List Ai := [.dat .str, .dat (.int .u8)]
abbrev io : List (Nat × Oi) := [(4, .dat (.int .i64))]
noncomputable def f (s : ByteArray) (c : Int) : Option (DOut ia io) := some (Lib.indexByte s.data.toList c.toNat.toUInt8, ())
theorem ok : FnOk Tryz.prog 95 ia io (fun v => f v.1 v.2.1) := by
  refine leaf_ok ⟨Tryz.f95, Tryz.func95, by kernel_rfl, by kernel_rfl⟩ rfl (fun _ => rfl) (fun _ => rfl) (fun v u h E w vals hgl hc => ?_)
  obtain ⟨x, vs, rfl, h1, y, vs', rfl, h2, h3⟩ := hc
  have h3 : vs' = [] := h3
  subst h3
  have h1 : x = .string v.1 := V_str.1 h1
  have h2 : y = .int .u8 v.2.1 := V_int.1 h2
  subst h1 h2
  injection h with h
  subst h
  refine (Any.strings_IndexByte Tryz.l137 v.1 v.2.1 w).mono ?_
  rintro e w' ⟨rfl, rfl⟩
  exact ⟨_, rfl, .refl _, fun E => V_int.2 rfl⟩
noncomputable def en : Entry := mkEntry 95 ia io (fun v => f v.1 v.2.1)
end F_strings_IndexByte
namespace F_strings_Trim
abbrev ia : List Ai := [.dat .str, .dat .str]
abbrev io : List (Nat × Oi) := [(4, .dat .str)]
noncomputable def f (s c : ByteArray) : Option (DOut ia io) := if s.size ≤ 9223372036854775807 ∧ c.size < 4294967281 ∧ (∀ b ∈ c.data.toList, b.toNat < 128) then some (⟨(Lib.trimS s.data.toList c.data.toList).toArray⟩, ()) else none
theorem zero116 (w : World) : (zeroValue (Tryz.l160_ren.t 116)).run Tryz.prog w = .ok (.agg (Array.replicate 256 (.bool false))) w := by
  have h : Tryz.prog.info? (Tryz.l160_ren.t 116) = some ((Tryz.prog.info? (Tryz.l160_ren.t 116)).getD default) := by kernel_rfl
  have h2 : ((Tryz.prog.info? (Tryz.l160_ren.t 116)).getD default).zero = some (.agg (Array.replicate 256 (.bool false))) := by kernel_rfl
  simp only [zeroValue, Sem.run_bind, Va.run_typeInfo h, Result.andThen_ok, h2, Sem.run_pure]
theorem ok : FnOk Tryz.prog 94 ia io (fun v => f v.1 v.2.1) := by
  refine leaf_ok ⟨Tryz.f94, Tryz.func94, by kernel_rfl, by kernel_rfl⟩ rfl (fun _ => rfl) (fun _ => rfl) (fun v u h E w vals hgl hc => ?_)
  obtain ⟨x, vs, rfl, h1, y, vs', rfl, h2, h3⟩ := hc
  have h3 : vs' = [] := h3
  subst h3
  have h1 : x = .string v.1 := V_str.1 h1
  have h2 : y = .string v.2.1 := V_str.1 h2
  subst h1 h2
  unfold f at h
  split at h
  · next hs =>
    injection h with h
    subst h
    refine (Any.strings_Trim_ascii Tryz.l160 zero116 (by kernel_rfl) v.1 v.2.1 w hs.1 hs.2.1 (fun j b hj => hs.2.2 b (List.mem_of_getElem? hj))).mono ?_
    rintro e w' ⟨rfl, hb⟩
    exact ⟨_, rfl, ⟨hb.os, hb.tape, hb.output, hb.size, hb.block⟩, fun E => V_str.2 rfl⟩
  · exact absurd h (by simp)
noncomputable def en : Entry := mkEntry 94 ia io (fun v => f v.1 v.2.1)
end F_strings_Trim
namespace F_strings_Split
abbrev ia : List Ai := [.dat .str, .dat .str]
abbrev io : List (Nat × Oi) := [(4, .val (.r 0 .str))]
noncomputable def f (s sep : ByteArray) : Option (DOut ia io) := if s.size < 4294967281 ∧ 1 ≤ sep.size then some (Lib.splitB sep 0 (Lib.countB s sep) s, ()) else none
theorem ok : FnOk Tryz.prog 93 ia io (fun v => f v.1 v.2.1) := by
  refine leaf_row_ok ⟨Tryz.f93, Tryz.func93, by kernel_rfl, by kernel_rfl⟩ rfl (fun _ => rfl) (fun v u h E w vals hgl hc => ?_)
  obtain ⟨x, vs, rfl, h1, y, vs', rfl, h2, h3⟩ := hc
  have h3 : vs' = [] := h3
  subst h3
  have h1 : x = .string v.1 := V_str.1 h1
  have h2 : y = .string v.2.1 := V_str.1 h2
  subst h1 h2
  unfold f at h
  split at h
  · next hs =>
    injection h with h
    subst h
    obtain ⟨m, hm⟩ := maxLen_cell hgl
    refine (Any.strings_Split Tryz.l146 (by kernel_rfl) v.1 v.2.1 m w hs.1 hm hs.2).mono ?_
    rintro e w' ⟨rfl, rfl⟩
    have hl := Lib.splitB_all v.2.1 hs.2 0 _ v.1 rfl
    refine ⟨_, _, by rw [hl], rfl, fun S w' => ?_⟩
    have : ∀ l : List ByteArray, RdL (Rd S w' .str) l (l.map Value.string) := by
      intro l
      induction l with
      | nil => rfl
      | cons x l ih => exact ⟨[.string x], l.map Value.string, rfl, rfl, ih⟩
    exact this _
  · exact absurd h (by simp)
noncomputable def en : Entry := mkEntry 93 ia io (fun v => f v.1 v.2.1)
end F_strings_Split
end Go.Proofs.YtfpedialdcgnhaaGreatDoor
namespace Go.Proofs.YtfpedialdcgnhaaGreatDoor
open Go Go.Va Go.Proofs
namespace F_label_Clean
abbrev ia : List Ai := [.dat .str]
abbrev io : List (Nat × Oi) := [(2, .dat .bool)]
abbrev R : Type := DOut ia io
noncomputable def X (n : Nat) : Ctx := ⟨⟨tab, [F_unicode_utf8_ValidString.en], 0, []⟩, 21, bnOf 0 ia⟩
abbrev g1 : List Si := [.dat 0 .str, .val 6 (.r 200600 (.int .u8)), .dat 7 (.int .i64), .dat 8 (.int .i64)]
abbrev g2 : List Si := [.dat 0 .str]
noncomputable def T : CT := (.s .o (.s (.s .o (.b (.l g1 .o))) (.r g2 .o)))
noncomputable def J1 (n : Nat) (m : Nat) : ByteArray × (List (Int)) × Int × Int × Unit → Option R := jL (X n) n T (bodyOf Tryz.f14) (endK ia io) g1 [1, 0, 1, 0] [] m
noncomputable def J2 (n : Nat) : ByteArray × Unit → Option R := jR (X n) n T (bodyOf Tryz.f14) (endK ia io) g2 [1, 1] []
noncomputable def f (n : Nat) (s_ : ByteArray) : Option R := fRun (X n) n T Tryz.f14 ia io (s_, ())
theorem e0 (n : Nat) (s_ : ByteArray) : f n s_ =
  J1 n n (s_, (ofBytes s_), (((ofBytes s_).length : Nat) : Int), 0, ()) := (hideF_eq _).trans (by kernel_rfl)
theorem e1 (n m : Nat) (s_ : ByteArray) (t6 : List (Int)) (t7 : Int) (t8 : Int) : J1 n (m + 1) (s_, t6, t7, t8, ()) =
  bIf ((hide (decide (t8 < t7)))) (
    gIf (0 ≤ t8 ∧ t8 < ((t6.length : Nat) : Int)) (
      bIf ((hide (decide ((List.getD t6 (0 + t8.toNat) 0) < (32 : Int))))) (
        some (false, ())
        ) (
        bIf ((hide ((List.getD t6 (0 + t8.toNat) 0) == (127 : Int)))) (
          some (false, ())
          ) (
          J1 n m (s_, t6, t7, (IntKind.i64.wrap (t8 + (1 : Int))), ())
          )
        )
      )
    ) (
    J2 n (s_, ())
    ) := (hideF_eq _).trans (by kernel_rfl)
theorem e2 (n : Nat) (s_ : ByteArray) : J2 n (s_, ()) =
  bnd (F_unicode_utf8_ValidString.f s_) fun u1 =>
  some (u1.1, ()) := (hideF_eq _).trans (by kernel_rfl)
theorem phi (n : Nat) : ∀ e ∈ (X n).c.Φ, EntryOk Tryz.prog e := allE_cons (mkEntry_ok (F_unicode_utf8_ValidString.ok)) (allE_nil)
theorem ok (n : Nat) : FnOk Tryz.prog 14 ia io (fRun (X n) n T Tryz.f14 ia io) := tree_ok mixed tabIs (phi n) Tryz.func14 (by kernel_rfl) rfl
noncomputable def en (n : Nat) : Entry := mkEntry 14 ia io (fRun (X n) n T Tryz.f14 ia io)
end F_label_Clean
end Go.Proofs.YtfpedialdcgnhaaGreatDoor
namespace Go.Proofs.YtfpedialdcgnhaaGreatDoor
open Go Go.Va Go.Proofs
namespace F_ref06_Clean
abbrev ia : List Ai := [.dat .str]
abbrev io : List (Nat × Oi) := [(2, .dat .bool)]
abbrev R : Type := DOut ia io
noncomputable def X (n : Nat) : Ctx := ⟨⟨tab, [], 0, []⟩, 109, bnOf 0 ia⟩
abbrev g1 : List Si := [.dat 0 .str, .dat 3 (.int .i64)]
abbrev g2 : List Si := [.dat 0 .str, .dat 3 (.int .i64), .dat 4 (.int .i64), .dat 21 .bool]
abbrev g3 : List Si := [.dat 0 .str, .dat 3 (.int .i64), .dat 4 (.int .i64), .dat 30 .bool]
abbrev g4 : List Si := [.dat 0 .str, .dat 3 (.int .i64), .dat 4 (.int .i64), .dat 39 .bool]
abbrev g5 : List Si := [.dat 0 .str, .dat 3 (.int .i64), .dat 4 (.int .i64), .dat 5 (.int .i64), .dat 6 (.int .i64), .dat 7 (.int .i64)]
abbrev g6 : List Si := [.dat 0 .str, .dat 3 (.int .i64), .dat 5 (.int .i64), .dat 6 (.int .i64), .dat 7 (.int .i64)]
abbrev g7 : List Si := [.dat 0 .str, .dat 3 (.int .i64), .dat 5 (.int .i64), .dat 6 (.int .i64), .dat 7 (.int .i64), .dat 8 (.int .i64)]
abbrev g8 : List Si := [.dat 0 .str, .dat 3 (.int .i64), .dat 5 (.int .i64), .dat 6 (.int .i64), .dat 7 (.int .i64), .dat 8 (.int .i64)]
abbrev g9 : List Si := [.dat 0 .str, .dat 3 (.int .i64), .dat 5 (.int .i64), .dat 6 (.int .i64), .dat 7 (.int .i64), .dat 8 (.int .i64)]
abbrev g10 : List Si := [.dat 0 .str, .dat 3 (.int .i64), .dat 5 (.int .i64), .dat 6 (.int .i64), .dat 7 (.int .i64)]
abbrev g11 : List Si := [.dat 0 .str, .dat 3 (.int .i64), .dat 5 (.int .i64)]
abbrev g12 : List Si := []
noncomputable def T : CT := (.s .o (.s (.s .o (.b (.l g1 (.s .o (.b (.s .o (.s .o (.s (.b (.s .o (.c .o (.s .o (.r g2 (.c .o (.s .o (.r g3 (.c .o (.s .o (.r g4 .o))))))))))) (.r g5 (.s .o (.r g6 (.s (.s .o (.b (.l g7 (.s .o (.s (.b (.s .o (.r g8 .o))) (.r g9 .o)))))) (.r g10 (.s .o (.r g11 .o))))))))))))))) (.r g12 .o)))
noncomputable def J1 (n : Nat) (m : Nat) : ByteArray × Int × Unit → Option R := jL (X n) n T (bodyOf Tryz.f19) (endK ia io) g1 [1, 0, 1, 0] [] m
noncomputable def J2 (n m1 : Nat) : ByteArray × Int × Int × Bool × Unit → Option R := jR (X n) n T (bodyOf Tryz.f19) (endK ia io) g2 [1, 0, 1, 0, 0, 1, 0, 1, 1, 0, 0, 1, 1, 1] [m1]
noncomputable def J3 (n m1 : Nat) : ByteArray × Int × Int × Bool × Unit → Option R := jR (X n) n T (bodyOf Tryz.f19) (endK ia io) g3 [1, 0, 1, 0, 0, 1, 0, 1, 1, 0, 0, 1, 1, 1, 1, 1] [m1]
noncomputable def J4 (n m1 : Nat) : ByteArray × Int × Int × Bool × Unit → Option R := jR (X n) n T (bodyOf Tryz.f19) (endK ia io) g4 [1, 0, 1, 0, 0, 1, 0, 1, 1, 0, 0, 1, 1, 1, 1, 1, 1, 1] [m1]
noncomputable def J5 (n m1 : Nat) : ByteArray × Int × Int × Int × Int × Int × Unit → Option R := jR (X n) n T (bodyOf Tryz.f19) (endK ia io) g5 [1, 0, 1, 0, 0, 1, 0, 1, 1, 1] [m1]
noncomputable def J6 (n m1 : Nat) : ByteArray × Int × Int × Int × Int × Unit → Option R := jR (X n) n T (bodyOf Tryz.f19) (endK ia io) g6 [1, 0, 1, 0, 0, 1, 0, 1, 1, 1, 1] [m1]
noncomputable def J7 (n m1 : Nat) (m : Nat) : ByteArray × Int × Int × Int × Int × Int × Unit → Option R := jL (X n) n T (bodyOf Tryz.f19) (endK ia io) g7 [1, 0, 1, 0, 0, 1, 0, 1, 1, 1, 1, 0, 1, 0] [m1] m
noncomputable def J8 (n m1 m7 : Nat) : ByteArray × Int × Int × Int × Int × Int × Unit → Option R := jR (X n) n T (bodyOf Tryz.f19) (endK ia io) g8 [1, 0, 1, 0, 0, 1, 0, 1, 1, 1, 1, 0, 1, 0, 0, 1, 0, 0, 1] [m1, m7]
noncomputable def J9 (n m1 m7 : Nat) : ByteArray × Int × Int × Int × Int × Int × Unit → Option R := jR (X n) n T (bodyOf Tryz.f19) (endK ia io) g9 [1, 0, 1, 0, 0, 1, 0, 1, 1, 1, 1, 0, 1, 0, 0, 1, 1] [m1, m7]
noncomputable def J10 (n m1 : Nat) : ByteArray × Int × Int × Int × Int × Unit → Option R := jR (X n) n T (bodyOf Tryz.f19) (endK ia io) g10 [1, 0, 1, 0, 0, 1, 0, 1, 1, 1, 1, 1] [m1]
noncomputable def J11 (n m1 : Nat) : ByteArray × Int × Int × Unit → Option R := jR (X n) n T (bodyOf Tryz.f19) (endK ia io) g11 [1, 0, 1, 0, 0, 1, 0, 1, 1, 1, 1, 1, 1] [m1]
noncomputable def J12 (n : Nat) : Unit → Option R := jR (X n) n T (bodyOf Tryz.f19) (endK ia io) g12 [1, 1] []
noncomputable def f (n : Nat) (s_ : ByteArray) : Option R := fRun (X n) n T Tryz.f19 ia io (s_, ())
theorem e0 (n : Nat) (s_ : ByteArray) : f n s_ =
  J1 n n (s_, 0, ()) := (hideF_eq _).trans (by kernel_rfl)
theorem e1 (n m : Nat) (s_ : ByteArray) (at_ : Int) : J1 n (m + 1) (s_, at_, ()) =
  bIf ((hide (decide (at_ < (s_.size : Int))))) (
    gIf (0 ≤ at_ ∧ at_ < (s_.size : Int)) (
      bIf ((hide (decide ((IntKind.i64.wrap (bt s_ at_)) < (128 : Int))))) (
        J5 n m (s_, at_, (IntKind.i64.wrap (bt s_ at_)), 1, (IntKind.i64.wrap (bt s_ at_)), 0, ())
        ) (
        bIf ((hide (decide ((IntKind.i64.wrap (bt s_ at_)) ≥ (192 : Int))))) (
          J2 n m (s_, at_, (IntKind.i64.wrap (bt s_ at_)), (hide (decide ((IntKind.i64.wrap (bt s_ at_)) < (224 : Int)))), ())
          ) (
          J2 n m (s_, at_, (IntKind.i64.wrap (bt s_ at_)), false, ())
          )
        )
      )
    ) (
    J12 n (())
    ) := (hideF_eq _).trans (by kernel_rfl)
theorem e2 (n m1 : Nat) (s_ : ByteArray) (at_ : Int) (b : Int) (t21 : Bool) : J2 n m1 (s_, at_, b, t21, ()) =
  bIf (t21) (
    J5 n m1 (s_, at_, b, 2, (IntKind.i64.wrap (b - (192 : Int))), 128, ())
    ) (
    bIf ((hide (decide (b ≥ (224 : Int))))) (
      J3 n m1 (s_, at_, b, (hide (decide (b < (240 : Int)))), ())
      ) (
      J3 n m1 (s_, at_, b, false, ())
      )
    ) := (hideF_eq _).trans (by kernel_rfl)
theorem e3 (n m1 : Nat) (s_ : ByteArray) (at_ : Int) (b : Int) (t30 : Bool) : J3 n m1 (s_, at_, b, t30, ()) =
  bIf (t30) (
    J5 n m1 (s_, at_, b, 3, (IntKind.i64.wrap (b - (224 : Int))), 2048, ())
    ) (
    bIf ((hide (decide (b ≥ (240 : Int))))) (
      J4 n m1 (s_, at_, b, (hide (decide (b < (248 : Int)))), ())
      ) (
      J4 n m1 (s_, at_, b, false, ())
      )
    ) := (hideF_eq _).trans (by kernel_rfl)
theorem e4 (n m1 : Nat) (s_ : ByteArray) (at_ : Int) (b : Int) (t39 : Bool) : J4 n m1 (s_, at_, b, t39, ()) =
  bIf (t39) (
    J5 n m1 (s_, at_, b, 4, (IntKind.i64.wrap (b - (240 : Int))), 65536, ())
    ) (
    some (false, ())
    ) := (hideF_eq _).trans (by kernel_rfl)
theorem e5 (n m1 : Nat) (s_ : ByteArray) (at_ : Int) (b : Int) (n_ : Int) (r : Int) (least : Int) : J5 n m1 (s_, at_, b, n_, r, least, ()) =
  bIf ((hide (decide (b < (32 : Int))))) (
    some (false, ())
    ) (
    bIf ((hide (b == (127 : Int)))) (
      some (false, ())
      ) (
      J6 n m1 (s_, at_, n_, r, least, ())
      )
    ) := (hideF_eq _).trans (by kernel_rfl)
theorem e6 (n m1 : Nat) (s_ : ByteArray) (at_ : Int) (n_ : Int) (r : Int) (least : Int) : J6 n m1 (s_, at_, n_, r, least, ()) =
  J7 n m1 n (s_, at_, n_, r, least, 1, ()) := (hideF_eq _).trans (by kernel_rfl)
theorem e7 (n m1 m : Nat) (s_ : ByteArray) (at_ : Int) (n_ : Int) (r : Int) (least : Int) (i : Int) : J7 n m1 (m + 1) (s_, at_, n_, r, least, i, ()) =
  bIf ((hide (decide (i < n_)))) (
    bIf ((hide (decide ((IntKind.i64.wrap (at_ + i)) ≥ (s_.size : Int))))) (
      some (false, ())
      ) (
      gIf (0 ≤ (IntKind.i64.wrap (at_ + i)) ∧ (IntKind.i64.wrap (at_ + i)) < (s_.size : Int)) (
        bIf ((hide (decide ((bt s_ (IntKind.i64.wrap (at_ + i))) < (128 : Int))))) (
          some (false, ())
          ) (
          gIf (0 ≤ (IntKind.i64.wrap (at_ + i)) ∧ (IntKind.i64.wrap (at_ + i)) < (s_.size : Int)) (
            bIf ((hide (decide ((bt s_ (IntKind.i64.wrap (at_ + i))) ≥ (192 : Int))))) (
              some (false, ())
              ) (
              J8 n m1 m (s_, at_, n_, r, least, i, ())
              )
            )
          )
        )
      )
    ) (
    J10 n m1 (s_, at_, n_, r, least, ())
    ) := (hideF_eq _).trans (by kernel_rfl)
theorem e8 (n m1 m7 : Nat) (s_ : ByteArray) (at_ : Int) (n_ : Int) (r : Int) (least : Int) (i : Int) : J8 n m1 m7 (s_, at_, n_, r, least, i, ()) =
  gIf (0 ≤ (IntKind.i64.wrap (at_ + i)) ∧ (IntKind.i64.wrap (at_ + i)) < (s_.size : Int)) (
    J9 n m1 m7 (s_, at_, n_, (IntKind.i64.wrap ((IntKind.i64.wrap ((IntKind.i64.wrap (r * (64 : Int))) + (IntKind.i64.wrap (bt s_ (IntKind.i64.wrap (at_ + i)))))) - (128 : Int))), least, i, ())
    ) := (hideF_eq _).trans (by kernel_rfl)
theorem e9 (n m1 m7 : Nat) (s_ : ByteArray) (at_ : Int) (n_ : Int) (r : Int) (least : Int) (i : Int) : J9 n m1 m7 (s_, at_, n_, r, least, i, ()) =
  J7 n m1 m7 (s_, at_, n_, r, least, (IntKind.i64.wrap (i + (1 : Int))), ()) := (hideF_eq _).trans (by kernel_rfl)
theorem e10 (n m1 : Nat) (s_ : ByteArray) (at_ : Int) (n_ : Int) (r : Int) (least : Int) : J10 n m1 (s_, at_, n_, r, least, ()) =
  bIf ((hide (decide (r < least)))) (
    some (false, ())
    ) (
    bIf ((hide (decide (r > (1114111 : Int))))) (
      some (false, ())
      ) (
      bIf ((hide (decide (r ≥ (55296 : Int))))) (
        bIf ((hide (decide (r ≤ (57343 : Int))))) (
          some (false, ())
          ) (
          J11 n m1 (s_, at_, n_, ())
          )
        ) (
        J11 n m1 (s_, at_, n_, ())
        )
      )
    ) := (hideF_eq _).trans (by kernel_rfl)
theorem e11 (n m1 : Nat) (s_ : ByteArray) (at_ : Int) (n_ : Int) : J11 n m1 (s_, at_, n_, ()) =
  J1 n m1 (s_, (IntKind.i64.wrap (at_ + n_)), ()) := (hideF_eq _).trans (by kernel_rfl)
theorem e12 (n : Nat) : J12 n (()) =
  some (true, ()) := (hideF_eq _).trans (by kernel_rfl)
theorem phi (n : Nat) : ∀ e ∈ (X n).c.Φ, EntryOk Tryz.prog e := allE_nil
theorem ok (n : Nat) : FnOk Tryz.prog 19 ia io (fRun (X n) n T Tryz.f19 ia io) := tree_ok mixed tabIs (phi n) Tryz.func19 (by kernel_rfl) rfl
noncomputable def en (n : Nat) : Entry := mkEntry 19 ia io (fRun (X n) n T Tryz.f19 ia io)
end F_ref06_Clean
end Go.Proofs.YtfpedialdcgnhaaGreatDoor
namespace Go.Proofs.YtfpedialdcgnhaaGreatDoor
open Go Go.Va Go.Proofs
namespace F_when_Clamp
abbrev ia : List Ai := [.dat (.int .i64)]
abbrev io : List (Nat × Oi) := [(2, .dat (.int .i64))]
abbrev R : Type := DOut ia io
noncomputable def X (n : Nat) : Ctx := ⟨⟨tab, [], 0, []⟩, 6, bnOf 0 ia⟩
noncomputable def T : CT := .o
noncomputable def f (n : Nat) (t : Int) : Option R := fRun (X n) n T Tryz.f32 ia io (t, ())
theorem e0 (n : Nat) (t : Int) : f n t =
  some ((maxI .i64 (-62135596800) (minI .i64 t 253402300799)), ()) := (hideF_eq _).trans (by kernel_rfl)
theorem phi (n : Nat) : ∀ e ∈ (X n).c.Φ, EntryOk Tryz.prog e := allE_nil
theorem ok (n : Nat) : FnOk Tryz.prog 32 ia io (fRun (X n) n T Tryz.f32 ia io) := tree_ok mixed tabIs (phi n) Tryz.func32 (by kernel_rfl) rfl
noncomputable def en (n : Nat) : Entry := mkEntry 32 ia io (fRun (X n) n T Tryz.f32 ia io)
end F_when_Clamp
end Go.Proofs.YtfpedialdcgnhaaGreatDoor
namespace Go.Proofs.YtfpedialdcgnhaaGreatDoor
open Go Go.Va Go.Proofs
namespace F_ref05_Clamp
abbrev ia : List Ai := [.dat (.int .i64)]
abbrev io : List (Nat × Oi) := [(2, .dat (.int .i64))]
abbrev R : Type := DOut ia io
noncomputable def X (n : Nat) : Ctx := ⟨⟨tab, [], 0, []⟩, 8, bnOf 0 ia⟩
noncomputable def T : CT := .o
noncomputable def f (n : Nat) (t : Int) : Option R := fRun (X n) n T Tryz.f33 ia io (t, ())
theorem e0 (n : Nat) (t : Int) : f n t =
  bIf ((hide (decide (t < (-62135596800 : Int))))) (
    some ((-62135596800), ())
    ) (
    bIf ((hide (decide (t > (253402300799 : Int))))) (
      some (253402300799, ())
      ) (
      some (t, ())
      )
    ) := (hideF_eq _).trans (by kernel_rfl)
theorem phi (n : Nat) : ∀ e ∈ (X n).c.Φ, EntryOk Tryz.prog e := allE_nil
theorem ok (n : Nat) : FnOk Tryz.prog 33 ia io (fRun (X n) n T Tryz.f33 ia io) := tree_ok mixed tabIs (phi n) Tryz.func33 (by kernel_rfl) rfl
noncomputable def en (n : Nat) : Entry := mkEntry 33 ia io (fRun (X n) n T Tryz.f33 ia io)
end F_ref05_Clamp
end Go.Proofs.YtfpedialdcgnhaaGreatDoor
namespace Go.Proofs.YtfpedialdcgnhaaGreatDoor
open Go Go.Va Go.Proofs
namespace F_mode_Sound
abbrev ia : List Ai := [.dat T_api_Lock]
abbrev io : List (Nat × Oi) := [(2, .dat .bool)]
abbrev R : Type := DOut ia io
noncomputable def X (n : Nat) : Ctx := ⟨⟨tab, [F_when_Clamp.en n], 0, []⟩, 19, bnOf 0 ia⟩
abbrev g1 : List Si := [.ref 1 1 T_api_Lock, .dat 10 .bool, .box 1 (.d T_api_Lock)]
noncomputable def T : CT := (.s .o (.s (.s .o (.b (.s .o (.c .o (.s .o (.r g1 .o)))))) .o))
noncomputable def J1 (n : Nat) : Bool × D_api_Lock × Unit → Option R := jR (X n) n T (bodyOf Tryz.f103) (endK ia io) g1 [1, 0, 1, 0, 1, 1, 1] []
noncomputable def f (n : Nat) (l : D_api_Lock) : Option R := fRun (X n) n T Tryz.f103 ia io (l, ())
theorem e0 (n : Nat) (l : D_api_Lock) : f n l =
  bIf ((hide (l.1 == (0 : Int)))) (
    some ((hide (l.2.1 == (0 : Int))), ())
    ) (
    bIf ((hide (l.1 == (1 : Int)))) (
      J1 n (true, l, ())
      ) (
      J1 n ((hide (l.1 == (2 : Int))), l, ())
      )
    ) := (hideF_eq _).trans (by kernel_rfl)
theorem e1 (n : Nat) (t10 : Bool) (l : D_api_Lock) : J1 n (t10, l, ()) =
  bIf (t10) (
    bnd (F_when_Clamp.f n l.2.1) fun u1 =>
    some ((hide (l.2.1 == u1.1)), ())
    ) (
    some (false, ())
    ) := (hideF_eq _).trans (by kernel_rfl)
theorem phi (n : Nat) : ∀ e ∈ (X n).c.Φ, EntryOk Tryz.prog e := allE_cons (mkEntry_ok (F_when_Clamp.ok n)) (allE_nil)
theorem ok (n : Nat) : FnOk Tryz.prog 103 ia io (fRun (X n) n T Tryz.f103 ia io) := tree_ok mixed tabIs (phi n) Tryz.func103 (by kernel_rfl) rfl
noncomputable def en (n : Nat) : Entry := mkEntry 103 ia io (fRun (X n) n T Tryz.f103 ia io)
end F_mode_Sound
end Go.Proofs.YtfpedialdcgnhaaGreatDoor
namespace Go.Proofs.YtfpedialdcgnhaaGreatDoor
open Go Go.Va Go.Proofs
namespace F_ref12_Sound
abbrev ia : List Ai := [.dat T_api_Lock]
abbrev io : List (Nat × Oi) := [(2, .dat .bool)]
abbrev R : Type := DOut ia io
noncomputable def X (n : Nat) : Ctx := ⟨⟨tab, [F_ref05_Clamp.en n], 0, []⟩, 25, bnOf 0 ia⟩
noncomputable def T : CT := .o
noncomputable def f (n : Nat) (l : D_api_Lock) : Option R := fRun (X n) n T Tryz.f26 ia io (l, ())
theorem e0 (n : Nat) (l : D_api_Lock) : f n l =
  bIf ((hide (l.1 == (0 : Int)))) (
    some ((hide (l.2.1 == (0 : Int))), ())
    ) (
    bIf ((hide (l.1 == (1 : Int)))) (
      bnd (F_ref05_Clamp.f n l.2.1) fun u1 =>
      some ((hide (u1.1 == l.2.1)), ())
      ) (
      bIf ((hide (l.1 == (2 : Int)))) (
        bnd (F_ref05_Clamp.f n l.2.1) fun u2 =>
        some ((hide (u2.1 == l.2.1)), ())
        ) (
        some (false, ())
        )
      )
    ) := (hideF_eq _).trans (by kernel_rfl)
theorem phi (n : Nat) : ∀ e ∈ (X n).c.Φ, EntryOk Tryz.prog e := allE_cons (mkEntry_ok (F_ref05_Clamp.ok n)) (allE_nil)
theorem ok (n : Nat) : FnOk Tryz.prog 26 ia io (fRun (X n) n T Tryz.f26 ia io) := tree_ok mixed tabIs (phi n) Tryz.func26 (by kernel_rfl) rfl
noncomputable def en (n : Nat) : Entry := mkEntry 26 ia io (fRun (X n) n T Tryz.f26 ia io)
end F_ref12_Sound
end Go.Proofs.YtfpedialdcgnhaaGreatDoor
namespace Go.Proofs.YtfpedialdcgnhaaGreatDoor
open Go Go.Va Go.Proofs
namespace F_tags_good
abbrev ia : List Ai := [.dat T_api_Tag]
abbrev io : List (Nat × Oi) := [(2, .dat .bool)]
abbrev R : Type := DOut ia io
noncomputable def X (n : Nat) : Ctx := ⟨⟨tab, [F_label_Clean.en n], 0, []⟩, 28, bnOf 0 ia⟩
noncomputable def T : CT := .o
noncomputable def f (n : Nat) (t : D_api_Tag) : Option R := fRun (X n) n T Tryz.f172 ia io (t, ())
theorem e0 (n : Nat) (t : D_api_Tag) : f n t =
  bIf ((hide (!eqS t.1 (⟨#[]⟩ : ByteArray)))) (
    bIf ((hide (decide ((t.1.size : Int) ≤ (64 : Int))))) (
      bIf ((hide (decide ((t.2.1.size : Int) ≤ (64 : Int))))) (
        bnd (F_label_Clean.f n t.1) fun u1 =>
        bIf (u1.1) (
          bnd (F_label_Clean.f n t.2.1) fun u2 =>
          some (u2.1, ())
          ) (
          some (false, ())
          )
        ) (
        some (false, ())
        )
      ) (
      some (false, ())
      )
    ) (
    some (false, ())
    ) := (hideF_eq _).trans (by kernel_rfl)
theorem phi (n : Nat) : ∀ e ∈ (X n).c.Φ, EntryOk Tryz.prog e := allE_cons (mkEntry_ok (F_label_Clean.ok n)) (allE_nil)
theorem ok (n : Nat) : FnOk Tryz.prog 172 ia io (fRun (X n) n T Tryz.f172 ia io) := tree_ok mixed tabIs (phi n) Tryz.func172 (by kernel_rfl) rfl
noncomputable def en (n : Nat) : Entry := mkEntry 172 ia io (fRun (X n) n T Tryz.f172 ia io)
end F_tags_good
end Go.Proofs.YtfpedialdcgnhaaGreatDoor
namespace Go.Proofs.YtfpedialdcgnhaaGreatDoor
open Go Go.Va Go.Proofs
namespace F_tags_Sound
abbrev ia : List Ai := [.dat (.slice T_api_Tag)]
abbrev io : List (Nat × Oi) := [(2, .dat .bool)]
abbrev R : Type := DOut ia io
noncomputable def X (n : Nat) : Ctx := ⟨⟨tab, [F_tags_good.en n], 0, []⟩, 34, bnOf 0 ia⟩
abbrev g1 : List Si := [.dat 0 (.slice T_api_Tag), .dat 8 (.slice T_api_Tag), .dat 9 (.int .i64), .dat 10 (.int .i64)]
abbrev g2 : List Si := []
noncomputable def T : CT := (.s .o (.s .o (.s (.s .o (.b (.l g1 .o))) (.r g2 .o))))
noncomputable def J1 (n : Nat) (m : Nat) : (List (D_api_Tag)) × (List (D_api_Tag)) × Int × Int × Unit → Option R := jL (X n) n T (bodyOf Tryz.f102) (endK ia io) g1 [1, 1, 0, 1, 0] [] m
noncomputable def J2 (n : Nat) : Unit → Option R := jR (X n) n T (bodyOf Tryz.f102) (endK ia io) g2 [1, 1, 1] []
noncomputable def f (n : Nat) (list : List (D_api_Tag)) : Option R := fRun (X n) n T Tryz.f102 ia io (list, ())
theorem e0 (n : Nat) (list : List (D_api_Tag)) : f n list =
  bIf ((hide (decide (((list.length : Nat) : Int) > (8 : Int))))) (
    some (false, ())
    ) (
    J1 n n (list, list, ((list.length : Nat) : Int), 0, ())
    ) := (hideF_eq _).trans (by kernel_rfl)
theorem e1 (n m : Nat) (list : List (D_api_Tag)) (t8 : List (D_api_Tag)) (t9 : Int) (t10 : Int) : J1 n (m + 1) (list, t8, t9, t10, ()) =
  bIf ((hide (decide (t10 < t9)))) (
    gIf (0 ≤ t10 ∧ t10 < ((t8.length : Nat) : Int)) (
      bnd (F_tags_good.f n (List.getD t8 t10.toNat (Va.dflt T_api_Tag))) fun u1 =>
      bIf ((!u1.1)) (
        some (false, ())
        ) (
        bIf ((hide (decide (t10 > (0 : Int))))) (
          gIf (0 ≤ (IntKind.i64.wrap (t10 - (1 : Int))) ∧ (IntKind.i64.wrap (t10 - (1 : Int))) < ((list.length : Nat) : Int)) (
            bIf ((hide (!ltS ((List.getD list ((IntKind.i64.wrap (t10 - (1 : Int))).toNat) (Va.dflt T_api_Tag)).1) ((List.getD t8 t10.toNat (Va.dflt T_api_Tag)).1)))) (
              some (false, ())
              ) (
              J1 n m (list, t8, t9, (IntKind.i64.wrap (t10 + (1 : Int))), ())
              )
            )
          ) (
          J1 n m (list, t8, t9, (IntKind.i64.wrap (t10 + (1 : Int))), ())
          )
        )
      )
    ) (
    J2 n (())
    ) := (hideF_eq _).trans (by kernel_rfl)
theorem e2 (n : Nat) : J2 n (()) =
  some (true, ()) := (hideF_eq _).trans (by kernel_rfl)
theorem phi (n : Nat) : ∀ e ∈ (X n).c.Φ, EntryOk Tryz.prog e := allE_cons (mkEntry_ok (F_tags_good.ok n)) (allE_nil)
theorem ok (n : Nat) : FnOk Tryz.prog 102 ia io (fRun (X n) n T Tryz.f102 ia io) := tree_ok mixed tabIs (phi n) Tryz.func102 (by kernel_rfl) rfl
noncomputable def en (n : Nat) : Entry := mkEntry 102 ia io (fRun (X n) n T Tryz.f102 ia io)
end F_tags_Sound
end Go.Proofs.YtfpedialdcgnhaaGreatDoor
namespace Go.Proofs.YtfpedialdcgnhaaGreatDoor
open Go Go.Va Go.Proofs
namespace F_ref08_Sound
abbrev ia : List Ai := [.dat (.slice T_api_Tag)]
abbrev io : List (Nat × Oi) := [(2, .dat .bool)]
abbrev R : Type := DOut ia io
noncomputable def X (n : Nat) : Ctx := ⟨⟨tab, [F_ref06_Clean.en n], 0, []⟩, 72, bnOf 0 ia⟩
abbrev g1 : List Si := [.dat 0 (.slice T_api_Tag), .dat 3 (.int .i64)]
abbrev g2 : List Si := [.dat 0 (.slice T_api_Tag), .dat 3 (.int .i64)]
abbrev g3 : List Si := [.dat 0 (.slice T_api_Tag), .dat 3 (.int .i64)]
abbrev g4 : List Si := []
noncomputable def T : CT := (.s .o (.s .o (.s (.s .o (.b (.l g1 (.s .o (.s (.b (.s .o (.r g2 .o))) (.r g3 .o)))))) (.r g4 .o))))
noncomputable def J1 (n : Nat) (m : Nat) : (List (D_api_Tag)) × Int × Unit → Option R := jL (X n) n T (bodyOf Tryz.f25) (endK ia io) g1 [1, 1, 0, 1, 0] [] m
noncomputable def J2 (n m1 : Nat) : (List (D_api_Tag)) × Int × Unit → Option R := jR (X n) n T (bodyOf Tryz.f25) (endK ia io) g2 [1, 1, 0, 1, 0, 0, 1, 0, 0, 1] [m1]
noncomputable def J3 (n m1 : Nat) : (List (D_api_Tag)) × Int × Unit → Option R := jR (X n) n T (bodyOf Tryz.f25) (endK ia io) g3 [1, 1, 0, 1, 0, 0, 1, 1] [m1]
noncomputable def J4 (n : Nat) : Unit → Option R := jR (X n) n T (bodyOf Tryz.f25) (endK ia io) g4 [1, 1, 1] []
noncomputable def f (n : Nat) (l : List (D_api_Tag)) : Option R := fRun (X n) n T Tryz.f25 ia io (l, ())
theorem e0 (n : Nat) (l : List (D_api_Tag)) : f n l =
  bIf ((hide (decide (((l.length : Nat) : Int) > (8 : Int))))) (
    some (false, ())
    ) (
    J1 n n (l, 0, ())
    ) := (hideF_eq _).trans (by kernel_rfl)
theorem e1 (n m : Nat) (l : List (D_api_Tag)) (i : Int) : J1 n (m + 1) (l, i, ()) =
  bIf ((hide (decide (i < ((l.length : Nat) : Int))))) (
    gIf (0 ≤ i ∧ i < ((l.length : Nat) : Int)) (
      bIf ((hide (decide ((((List.getD l i.toNat (Va.dflt T_api_Tag)).1).size : Int) < (1 : Int))))) (
        some (false, ())
        ) (
        gIf (0 ≤ i ∧ i < ((l.length : Nat) : Int)) (
          bIf ((hide (decide ((((List.getD l i.toNat (Va.dflt T_api_Tag)).1).size : Int) > (64 : Int))))) (
            some (false, ())
            ) (
            gIf (0 ≤ i ∧ i < ((l.length : Nat) : Int)) (
              bIf ((hide (decide (((((List.getD l i.toNat (Va.dflt T_api_Tag)).2).1).size : Int) > (64 : Int))))) (
                some (false, ())
                ) (
                gIf (0 ≤ i ∧ i < ((l.length : Nat) : Int)) (
                  bnd (F_ref06_Clean.f n ((List.getD l i.toNat (Va.dflt T_api_Tag)).1)) fun u1 =>
                  bIf ((!u1.1)) (
                    some (false, ())
                    ) (
                    gIf (0 ≤ i ∧ i < ((l.length : Nat) : Int)) (
                      bnd (F_ref06_Clean.f n (((List.getD l i.toNat (Va.dflt T_api_Tag)).2).1)) fun u2 =>
                      bIf ((!u2.1)) (
                        some (false, ())
                        ) (
                        J2 n m (l, i, ())
                        )
                      )
                    )
                  )
                )
              )
            )
          )
        )
      )
    ) (
    J4 n (())
    ) := (hideF_eq _).trans (by kernel_rfl)
theorem e2 (n m1 : Nat) (l : List (D_api_Tag)) (i : Int) : J2 n m1 (l, i, ()) =
  bIf ((hide (decide (i > (0 : Int))))) (
    gIf (0 ≤ i ∧ i < ((l.length : Nat) : Int)) (
      gIf (0 ≤ (IntKind.i64.wrap (i - (1 : Int))) ∧ (IntKind.i64.wrap (i - (1 : Int))) < ((l.length : Nat) : Int)) (
        bIf ((hide (ltS ((List.getD l i.toNat (Va.dflt T_api_Tag)).1) ((List.getD l ((IntKind.i64.wrap (i - (1 : Int))).toNat) (Va.dflt T_api_Tag)).1) || eqS ((List.getD l i.toNat (Va.dflt T_api_Tag)).1) ((List.getD l ((IntKind.i64.wrap (i - (1 : Int))).toNat) (Va.dflt T_api_Tag)).1)))) (
          some (false, ())
          ) (
          J3 n m1 (l, i, ())
          )
        )
      )
    ) (
    J3 n m1 (l, i, ())
    ) := (hideF_eq _).trans (by kernel_rfl)
theorem e3 (n m1 : Nat) (l : List (D_api_Tag)) (i : Int) : J3 n m1 (l, i, ()) =
  J1 n m1 (l, (IntKind.i64.wrap (i + (1 : Int))), ()) := (hideF_eq _).trans (by kernel_rfl)
theorem e4 (n : Nat) : J4 n (()) =
  some (true, ()) := (hideF_eq _).trans (by kernel_rfl)
theorem phi (n : Nat) : ∀ e ∈ (X n).c.Φ, EntryOk Tryz.prog e := allE_cons (mkEntry_ok (F_ref06_Clean.ok n)) (allE_nil)
theorem ok (n : Nat) : FnOk Tryz.prog 25 ia io (fRun (X n) n T Tryz.f25 ia io) := tree_ok mixed tabIs (phi n) Tryz.func25 (by kernel_rfl) rfl
noncomputable def en (n : Nat) : Entry := mkEntry 25 ia io (fRun (X n) n T Tryz.f25 ia io)
end F_ref08_Sound
end Go.Proofs.YtfpedialdcgnhaaGreatDoor
namespace Go.Proofs.YtfpedialdcgnhaaGreatDoor
open Go Go.Va Go.Proofs
namespace F_label_Key
abbrev ia : List Ai := [.dat .str]
abbrev io : List (Nat × Oi) := [(2, .dat .bool)]
abbrev R : Type := DOut ia io
noncomputable def X (n : Nat) : Ctx := ⟨⟨tab, [F_label_Clean.en n], 0, []⟩, 14, bnOf 0 ia⟩
noncomputable def T : CT := .o
noncomputable def f (n : Nat) (s_ : ByteArray) : Option R := fRun (X n) n T Tryz.f58 ia io (s_, ())
theorem e0 (n : Nat) (s_ : ByteArray) : f n s_ =
  bIf ((hide (!eqS s_ (⟨#[]⟩ : ByteArray)))) (
    bIf ((hide (decide ((s_.size : Int) ≤ (200 : Int))))) (
      bnd (F_label_Clean.f n s_) fun u1 =>
      some (u1.1, ())
      ) (
      some (false, ())
      )
    ) (
    some (false, ())
    ) := (hideF_eq _).trans (by kernel_rfl)
theorem phi (n : Nat) : ∀ e ∈ (X n).c.Φ, EntryOk Tryz.prog e := allE_cons (mkEntry_ok (F_label_Clean.ok n)) (allE_nil)
theorem ok (n : Nat) : FnOk Tryz.prog 58 ia io (fRun (X n) n T Tryz.f58 ia io) := tree_ok mixed tabIs (phi n) Tryz.func58 (by kernel_rfl) rfl
noncomputable def en (n : Nat) : Entry := mkEntry 58 ia io (fRun (X n) n T Tryz.f58 ia io)
end F_label_Key
end Go.Proofs.YtfpedialdcgnhaaGreatDoor
namespace Go.Proofs.YtfpedialdcgnhaaGreatDoor
open Go Go.Va Go.Proofs
namespace F_ref06_Key
abbrev ia : List Ai := [.dat .str]
abbrev io : List (Nat × Oi) := [(2, .dat .bool)]
abbrev R : Type := DOut ia io
noncomputable def X (n : Nat) : Ctx := ⟨⟨tab, [F_ref06_Clean.en n], 0, []⟩, 15, bnOf 0 ia⟩
noncomputable def T : CT := .o
noncomputable def f (n : Nat) (s_ : ByteArray) : Option R := fRun (X n) n T Tryz.f24 ia io (s_, ())
theorem e0 (n : Nat) (s_ : ByteArray) : f n s_ =
  bIf ((hide (decide ((s_.size : Int) ≥ (1 : Int))))) (
    bIf ((hide (decide ((s_.size : Int) ≤ (200 : Int))))) (
      bnd (F_ref06_Clean.f n s_) fun u1 =>
      some (u1.1, ())
      ) (
      some (false, ())
      )
    ) (
    some (false, ())
    ) := (hideF_eq _).trans (by kernel_rfl)
theorem phi (n : Nat) : ∀ e ∈ (X n).c.Φ, EntryOk Tryz.prog e := allE_cons (mkEntry_ok (F_ref06_Clean.ok n)) (allE_nil)
theorem ok (n : Nat) : FnOk Tryz.prog 24 ia io (fRun (X n) n T Tryz.f24 ia io) := tree_ok mixed tabIs (phi n) Tryz.func24 (by kernel_rfl) rfl
noncomputable def en (n : Nat) : Entry := mkEntry 24 ia io (fRun (X n) n T Tryz.f24 ia io)
end F_ref06_Key
end Go.Proofs.YtfpedialdcgnhaaGreatDoor
namespace Go.Proofs.YtfpedialdcgnhaaGreatDoor
open Go Go.Va Go.Proofs
namespace F_mode_Good
abbrev ia : List Ai := [.dat T_api_Default]
abbrev io : List (Nat × Oi) := [(2, .dat .bool)]
abbrev R : Type := DOut ia io
noncomputable def X (n : Nat) : Ctx := ⟨⟨tab, [], 0, []⟩, 21, bnOf 0 ia⟩
abbrev g1 : List Si := [.ref 1 1 T_api_Default, .dat 10 .bool, .box 1 (.d T_api_Default)]
noncomputable def T : CT := (.s .o (.s (.s .o (.b (.s .o (.c .o (.s .o (.r g1 .o)))))) .o))
noncomputable def J1 (n : Nat) : Bool × D_api_Default × Unit → Option R := jR (X n) n T (bodyOf Tryz.f46) (endK ia io) g1 [1, 0, 1, 0, 1, 1, 1] []
noncomputable def f (n : Nat) (d : D_api_Default) : Option R := fRun (X n) n T Tryz.f46 ia io (d, ())
theorem e0 (n : Nat) (d : D_api_Default) : f n d =
  bIf ((hide (d.1 == (0 : Int)))) (
    some ((hide (d.2.1 == (0 : Int))), ())
    ) (
    bIf ((hide (d.1 == (1 : Int)))) (
      J1 n (true, d, ())
      ) (
      J1 n ((hide (d.1 == (2 : Int))), d, ())
      )
    ) := (hideF_eq _).trans (by kernel_rfl)
theorem e1 (n : Nat) (t10 : Bool) (d : D_api_Default) : J1 n (t10, d, ()) =
  bIf (t10) (
    bIf ((hide (decide (d.2.1 ≥ (1 : Int))))) (
      some ((hide (decide (d.2.1 ≤ (36500 : Int)))), ())
      ) (
      some (false, ())
      )
    ) (
    some (false, ())
    ) := (hideF_eq _).trans (by kernel_rfl)
theorem phi (n : Nat) : ∀ e ∈ (X n).c.Φ, EntryOk Tryz.prog e := allE_nil
theorem ok (n : Nat) : FnOk Tryz.prog 46 ia io (fRun (X n) n T Tryz.f46 ia io) := tree_ok mixed tabIs (phi n) Tryz.func46 (by kernel_rfl) rfl
noncomputable def en (n : Nat) : Entry := mkEntry 46 ia io (fRun (X n) n T Tryz.f46 ia io)
end F_mode_Good
end Go.Proofs.YtfpedialdcgnhaaGreatDoor
namespace Go.Proofs.YtfpedialdcgnhaaGreatDoor
open Go Go.Va Go.Proofs
namespace F_ref12_Good
abbrev ia : List Ai := [.dat T_api_Default]
abbrev io : List (Nat × Oi) := [(2, .dat .bool)]
abbrev R : Type := DOut ia io
noncomputable def X (n : Nat) : Ctx := ⟨⟨tab, [], 0, []⟩, 27, bnOf 0 ia⟩
noncomputable def T : CT := .o
noncomputable def f (n : Nat) (d : D_api_Default) : Option R := fRun (X n) n T Tryz.f27 ia io (d, ())
theorem e0 (n : Nat) (d : D_api_Default) : f n d =
  bIf ((hide (d.1 == (0 : Int)))) (
    some ((hide (d.2.1 == (0 : Int))), ())
    ) (
    bIf ((hide (d.1 == (1 : Int)))) (
      bIf ((hide (decide (d.2.1 ≥ (1 : Int))))) (
        some ((hide (decide (d.2.1 ≤ (36500 : Int)))), ())
        ) (
        some (false, ())
        )
      ) (
      bIf ((hide (d.1 == (2 : Int)))) (
        bIf ((hide (decide (d.2.1 ≥ (1 : Int))))) (
          some ((hide (decide (d.2.1 ≤ (36500 : Int)))), ())
          ) (
          some (false, ())
          )
        ) (
        some (false, ())
        )
      )
    ) := (hideF_eq _).trans (by kernel_rfl)
theorem phi (n : Nat) : ∀ e ∈ (X n).c.Φ, EntryOk Tryz.prog e := allE_nil
theorem ok (n : Nat) : FnOk Tryz.prog 27 ia io (fRun (X n) n T Tryz.f27 ia io) := tree_ok mixed tabIs (phi n) Tryz.func27 (by kernel_rfl) rfl
noncomputable def en (n : Nat) : Entry := mkEntry 27 ia io (fRun (X n) n T Tryz.f27 ia io)
end F_ref12_Good
end Go.Proofs.YtfpedialdcgnhaaGreatDoor
namespace Go.Proofs.YtfpedialdcgnhaaGreatDoor
open Go Go.Va Go.Proofs
namespace F_glob_pieces
abbrev ia : List Ai := [.dat .str]
abbrev io : List (Nat × Oi) := [(2, .val (.r 0 T_glob_piece)), (3, .dat .bool)]
abbrev R : Type := DOut ia io
noncomputable def X (n : Nat) : Ctx := ⟨⟨tab, [], 0, []⟩, 46, bnOf 0 ia⟩
abbrev g1 : List Si := [.dat 0 .str, .val 4 (.r 200400 T_glob_piece), .dat 5 (.int .i64)]
abbrev g2 : List Si := [.dat 0 .str, .val 4 (.r 200400 T_glob_piece), .dat 5 (.int .i64)]
abbrev g3 : List Si := [.dat 0 .str, .val 4 (.r 200400 T_glob_piece), .dat 5 (.int .i64)]
abbrev g4 : List Si := [.val 4 (.r 200400 T_glob_piece)]
noncomputable def T : CT := (.s .o (.s .o (.s .o (.s (.s .o (.b (.l g1 (.s .o (.s (.b (.s .o (.b (.s .o (.r g2 .o))))) (.r g3 .o)))))) (.r g4 .o)))))
noncomputable def J1 (n : Nat) (m : Nat) : ByteArray × (List (D_glob_piece)) × Int × Unit → Option R := jL (X n) n T (bodyOf Tryz.f171) (endK ia io) g1 [1, 1, 1, 0, 1, 0] [] m
noncomputable def J2 (n m1 : Nat) : ByteArray × (List (D_glob_piece)) × Int × Unit → Option R := jR (X n) n T (bodyOf Tryz.f171) (endK ia io) g2 [1, 1, 1, 0, 1, 0, 0, 1, 0, 0, 1, 0, 1] [m1]
noncomputable def J3 (n m1 : Nat) : ByteArray × (List (D_glob_piece)) × Int × Unit → Option R := jR (X n) n T (bodyOf Tryz.f171) (endK ia io) g3 [1, 1, 1, 0, 1, 0, 0, 1, 1] [m1]
noncomputable def J4 (n : Nat) : (List (D_glob_piece)) × Unit → Option R := jR (X n) n T (bodyOf Tryz.f171) (endK ia io) g4 [1, 1, 1, 1] []
noncomputable def f (n : Nat) (p : ByteArray) : Option R := fRun (X n) n T Tryz.f171 ia io (p, ())
theorem e0 (n : Nat) (p : ByteArray) : f n p =
  bIf ((hide (decide ((p.size : Int) > (200 : Int))))) (
    some ([], false, ())
    ) (
    J1 n n (p, [], 0, ())
    ) := (hideF_eq _).trans (by kernel_rfl)
theorem e1 (n m : Nat) (p : ByteArray) (out : List (D_glob_piece)) (i : Int) : J1 n (m + 1) (p, out, i, ()) =
  bIf ((hide (decide (i < (p.size : Int))))) (
    gIf (0 ≤ i ∧ i < (p.size : Int)) (
      bIf ((hide ((bt p i) == (42 : Int)))) (
        gIf ((out.length + 1) * 16 ≤ 70368744177664) (
          J3 n m (p, (out ++ ([(2, (0, ()))] : List (D_glob_piece))), i, ())
          )
        ) (
        bIf ((hide ((bt p i) == (63 : Int)))) (
          gIf ((out.length + 1) * 16 ≤ 70368744177664) (
            J3 n m (p, (out ++ ([(1, (0, ()))] : List (D_glob_piece))), i, ())
            )
          ) (
          bIf ((hide ((bt p i) == (92 : Int)))) (
            bIf ((hide ((IntKind.i64.wrap (i + (1 : Int))) == (p.size : Int)))) (
              some ([], false, ())
              ) (
              J2 n m (p, out, (IntKind.i64.wrap (i + (1 : Int))), ())
              )
            ) (
            J2 n m (p, out, i, ())
            )
          )
        )
      )
    ) (
    J4 n (out, ())
    ) := (hideF_eq _).trans (by kernel_rfl)
theorem e2 (n m1 : Nat) (p : ByteArray) (out : List (D_glob_piece)) (i : Int) : J2 n m1 (p, out, i, ()) =
  gIf (0 ≤ i ∧ i < (p.size : Int)) (
    gIf ((out.length + 1) * 16 ≤ 70368744177664) (
      J3 n m1 (p, (out ++ ([(0, ((bt p i), ()))] : List (D_glob_piece))), i, ())
      )
    ) := (hideF_eq _).trans (by kernel_rfl)
theorem e3 (n m1 : Nat) (p : ByteArray) (out : List (D_glob_piece)) (i : Int) : J3 n m1 (p, out, i, ()) =
  J1 n m1 (p, out, (IntKind.i64.wrap (i + (1 : Int))), ()) := (hideF_eq _).trans (by kernel_rfl)
theorem e4 (n : Nat) (out : List (D_glob_piece)) : J4 n (out, ()) =
  some (out, true, ()) := (hideF_eq _).trans (by kernel_rfl)
theorem phi (n : Nat) : ∀ e ∈ (X n).c.Φ, EntryOk Tryz.prog e := allE_nil
theorem ok (n : Nat) : FnOk Tryz.prog 171 ia io (fRun (X n) n T Tryz.f171 ia io) := tree_ok mixed tabIs (phi n) Tryz.func171 (by kernel_rfl) rfl
noncomputable def en (n : Nat) : Entry := mkEntry 171 ia io (fRun (X n) n T Tryz.f171 ia io)
end F_glob_pieces
end Go.Proofs.YtfpedialdcgnhaaGreatDoor
namespace Go.Proofs.YtfpedialdcgnhaaGreatDoor
open Go Go.Va Go.Proofs
namespace F_glob_Sound
abbrev ia : List Ai := [.dat .str]
abbrev io : List (Nat × Oi) := [(2, .dat .bool)]
abbrev R : Type := DOut ia io
noncomputable def X (n : Nat) : Ctx := ⟨⟨tab, [F_glob_pieces.en n], 0, []⟩, 11, bnOf 0 ia⟩
noncomputable def T : CT := .o
noncomputable def f (n : Nat) (p : ByteArray) : Option R := fRun (X n) n T Tryz.f101 ia io (p, ())
theorem e0 (n : Nat) (p : ByteArray) : f n p =
  bnd (F_glob_pieces.f n p) fun u1 =>
  some (u1.2.1, ()) := (hideF_eq _).trans (by kernel_rfl)
theorem phi (n : Nat) : ∀ e ∈ (X n).c.Φ, EntryOk Tryz.prog e := allE_cons (mkEntry_ok (F_glob_pieces.ok n)) (allE_nil)
theorem ok (n : Nat) : FnOk Tryz.prog 101 ia io (fRun (X n) n T Tryz.f101 ia io) := tree_ok mixed tabIs (phi n) Tryz.func101 (by kernel_rfl) rfl
noncomputable def en (n : Nat) : Entry := mkEntry 101 ia io (fRun (X n) n T Tryz.f101 ia io)
end F_glob_Sound
end Go.Proofs.YtfpedialdcgnhaaGreatDoor
namespace Go.Proofs.YtfpedialdcgnhaaGreatDoor
open Go Go.Va Go.Proofs
namespace F_ref07_pieces
abbrev ia : List Ai := [.dat .str]
abbrev io : List (Nat × Oi) := [(2, .val (.r 0 T_glob_piece)), (3, .dat .bool)]
abbrev R : Type := DOut ia io
noncomputable def X (n : Nat) : Ctx := ⟨⟨tab, [], 0, []⟩, 57, bnOf 0 ia⟩
abbrev g1 : List Si := [.dat 0 .str, .val 4 (.r 200400 T_glob_piece), .dat 5 (.int .i64)]
abbrev g2 : List Si := [.dat 0 .str, .val 4 (.r 200400 T_glob_piece), .dat 5 (.int .i64)]
abbrev g3 : List Si := [.val 4 (.r 200400 T_glob_piece)]
noncomputable def T : CT := (.s .o (.s .o (.s .o (.s (.s .o (.b (.l g1 (.s .o (.s .o (.r g2 .o)))))) (.r g3 .o)))))
noncomputable def J1 (n : Nat) (m : Nat) : ByteArray × (List (D_glob_piece)) × Int × Unit → Option R := jL (X n) n T (bodyOf Tryz.f104) (endK ia io) g1 [1, 1, 1, 0, 1, 0] [] m
noncomputable def J2 (n m1 : Nat) : ByteArray × (List (D_glob_piece)) × Int × Unit → Option R := jR (X n) n T (bodyOf Tryz.f104) (endK ia io) g2 [1, 1, 1, 0, 1, 0, 0, 1, 1] [m1]
noncomputable def J3 (n : Nat) : (List (D_glob_piece)) × Unit → Option R := jR (X n) n T (bodyOf Tryz.f104) (endK ia io) g3 [1, 1, 1, 1] []
noncomputable def f (n : Nat) (p : ByteArray) : Option R := fRun (X n) n T Tryz.f104 ia io (p, ())
theorem e0 (n : Nat) (p : ByteArray) : f n p =
  bIf ((hide (decide ((p.size : Int) > (200 : Int))))) (
    some (([] : List (D_glob_piece)), false, ())
    ) (
    J1 n n (p, ([] : List (D_glob_piece)), 0, ())
    ) := (hideF_eq _).trans (by kernel_rfl)
theorem e1 (n m : Nat) (p : ByteArray) (out : List (D_glob_piece)) (i : Int) : J1 n (m + 1) (p, out, i, ()) =
  bIf ((hide (decide (i < (p.size : Int))))) (
    gIf (0 ≤ i ∧ i < (p.size : Int)) (
      bIf ((hide ((bt p i) == (42 : Int)))) (
        gIf ((out.length + 1) * 16 ≤ 70368744177664) (
          J2 n m (p, (out ++ ([(2, (0, ()))] : List (D_glob_piece))), i, ())
          )
        ) (
        bIf ((hide ((bt p i) == (63 : Int)))) (
          gIf ((out.length + 1) * 16 ≤ 70368744177664) (
            J2 n m (p, (out ++ ([(1, (0, ()))] : List (D_glob_piece))), i, ())
            )
          ) (
          bIf ((hide ((bt p i) == (92 : Int)))) (
            bIf ((hide (i == (IntKind.i64.wrap ((p.size : Int) - (1 : Int)))))) (
              some (out, false, ())
              ) (
              gIf (0 ≤ (IntKind.i64.wrap (i + (1 : Int))) ∧ (IntKind.i64.wrap (i + (1 : Int))) < (p.size : Int)) (
                gIf ((out.length + 1) * 16 ≤ 70368744177664) (
                  J2 n m (p, (out ++ ([(0, ((bt p (IntKind.i64.wrap (i + (1 : Int)))), ()))] : List (D_glob_piece))), (IntKind.i64.wrap (i + (1 : Int))), ())
                  )
                )
              )
            ) (
            gIf (0 ≤ i ∧ i < (p.size : Int)) (
              gIf ((out.length + 1) * 16 ≤ 70368744177664) (
                J2 n m (p, (out ++ ([(0, ((bt p i), ()))] : List (D_glob_piece))), i, ())
                )
              )
            )
          )
        )
      )
    ) (
    J3 n (out, ())
    ) := (hideF_eq _).trans (by kernel_rfl)
theorem e2 (n m1 : Nat) (p : ByteArray) (out : List (D_glob_piece)) (i : Int) : J2 n m1 (p, out, i, ()) =
  J1 n m1 (p, out, (IntKind.i64.wrap (i + (1 : Int))), ()) := (hideF_eq _).trans (by kernel_rfl)
theorem e3 (n : Nat) (out : List (D_glob_piece)) : J3 n (out, ()) =
  some (out, true, ()) := (hideF_eq _).trans (by kernel_rfl)
theorem phi (n : Nat) : ∀ e ∈ (X n).c.Φ, EntryOk Tryz.prog e := allE_nil
theorem ok (n : Nat) : FnOk Tryz.prog 104 ia io (fRun (X n) n T Tryz.f104 ia io) := tree_ok mixed tabIs (phi n) Tryz.func104 (by kernel_rfl) rfl
noncomputable def en (n : Nat) : Entry := mkEntry 104 ia io (fRun (X n) n T Tryz.f104 ia io)
end F_ref07_pieces
end Go.Proofs.YtfpedialdcgnhaaGreatDoor
namespace Go.Proofs.YtfpedialdcgnhaaGreatDoor
open Go Go.Va Go.Proofs
namespace F_ref07_Sound
abbrev ia : List Ai := [.dat .str]
abbrev io : List (Nat × Oi) := [(2, .dat .bool)]
abbrev R : Type := DOut ia io
noncomputable def X (n : Nat) : Ctx := ⟨⟨tab, [F_ref07_pieces.en n], 0, []⟩, 11, bnOf 0 ia⟩
noncomputable def T : CT := .o
noncomputable def f (n : Nat) (p : ByteArray) : Option R := fRun (X n) n T Tryz.f61 ia io (p, ())
theorem e0 (n : Nat) (p : ByteArray) : f n p =
  bnd (F_ref07_pieces.f n p) fun u1 =>
  some (u1.2.1, ()) := (hideF_eq _).trans (by kernel_rfl)
theorem phi (n : Nat) : ∀ e ∈ (X n).c.Φ, EntryOk Tryz.prog e := allE_cons (mkEntry_ok (F_ref07_pieces.ok n)) (allE_nil)
theorem ok (n : Nat) : FnOk Tryz.prog 61 ia io (fRun (X n) n T Tryz.f61 ia io) := tree_ok mixed tabIs (phi n) Tryz.func61 (by kernel_rfl) rfl
noncomputable def en (n : Nat) : Entry := mkEntry 61 ia io (fRun (X n) n T Tryz.f61 ia io)
end F_ref07_Sound
end Go.Proofs.YtfpedialdcgnhaaGreatDoor
namespace Go.Proofs.YtfpedialdcgnhaaGreatDoor
open Go Go.Va Go.Proofs
namespace F_entry_Rule
abbrev ia : List Ai := [.dat T_api_Rule]
abbrev io : List (Nat × Oi) := [(2, .dat .bool)]
abbrev R : Type := DOut ia io
noncomputable def X (n : Nat) : Ctx := ⟨⟨tab, [F_label_Clean.en n, F_tags_Sound.en n], 0, []⟩, 37, bnOf 0 ia⟩
noncomputable def T : CT := .o
noncomputable def f (n : Nat) (r : D_api_Rule) : Option R := fRun (X n) n T Tryz.f98 ia io (r, ())
theorem e0 (n : Nat) (r : D_api_Rule) : f n r =
  bIf ((hide (decide ((r.1.size : Int) ≤ (200 : Int))))) (
    bnd (F_label_Clean.f n r.1) fun u1 =>
    bIf (u1.1) (
      bnd (F_tags_Sound.f n r.2.1) fun u2 =>
      bIf (u2.1) (
        bIf ((hide (decide (r.2.2.1 ≥ (0 : Int))))) (
          bIf ((hide (decide (r.2.2.1 ≤ (36500 : Int))))) (
            bIf ((hide (decide (r.2.2.2.1 ≥ (0 : Int))))) (
              some ((hide (decide (r.2.2.2.1 ≤ (36500 : Int)))), ())
              ) (
              some (false, ())
              )
            ) (
            some (false, ())
            )
          ) (
          some (false, ())
          )
        ) (
        some (false, ())
        )
      ) (
      some (false, ())
      )
    ) (
    some (false, ())
    ) := (hideF_eq _).trans (by kernel_rfl)
theorem phi (n : Nat) : ∀ e ∈ (X n).c.Φ, EntryOk Tryz.prog e := allE_cons (mkEntry_ok (F_label_Clean.ok n)) (allE_cons (mkEntry_ok (F_tags_Sound.ok n)) (allE_nil))
theorem ok (n : Nat) : FnOk Tryz.prog 98 ia io (fRun (X n) n T Tryz.f98 ia io) := tree_ok mixed tabIs (phi n) Tryz.func98 (by kernel_rfl) rfl
noncomputable def en (n : Nat) : Entry := mkEntry 98 ia io (fRun (X n) n T Tryz.f98 ia io)
end F_entry_Rule
end Go.Proofs.YtfpedialdcgnhaaGreatDoor
namespace Go.Proofs.YtfpedialdcgnhaaGreatDoor
open Go Go.Va Go.Proofs
namespace F_entry_Rules_1
abbrev ia : List Ai := [.dat T_api_Rule]
abbrev io : List (Nat × Oi) := [(2, .dat .bool)]
abbrev R : Type := DOut ia io
noncomputable def X (n : Nat) : Ctx := ⟨⟨tab, [F_entry_Rule.en n], 0, []⟩, 6, bnOf 0 ia⟩
noncomputable def T : CT := .o
noncomputable def f (n : Nat) (r : D_api_Rule) : Option R := fRun (X n) n T Tryz.f97 ia io (r, ())
theorem e0 (n : Nat) (r : D_api_Rule) : f n r =
  bnd (F_entry_Rule.f n r) fun u1 =>
  some ((!u1.1), ()) := (hideF_eq _).trans (by kernel_rfl)
theorem phi (n : Nat) : ∀ e ∈ (X n).c.Φ, EntryOk Tryz.prog e := allE_cons (mkEntry_ok (F_entry_Rule.ok n)) (allE_nil)
theorem ok (n : Nat) : FnOk Tryz.prog 97 ia io (fRun (X n) n T Tryz.f97 ia io) := tree_ok mixed tabIs (phi n) Tryz.func97 (by kernel_rfl) rfl
noncomputable def en (n : Nat) : Entry := mkEntry 97 ia io (fRun (X n) n T Tryz.f97 ia io)
end F_entry_Rules_1
end Go.Proofs.YtfpedialdcgnhaaGreatDoor
namespace Go.Proofs.YtfpedialdcgnhaaGreatDoor
open Go Go.Va Go.Proofs
namespace F_slices_IndexFunc_Rule
abbrev ia : List Ai := [.dat (.slice T_api_Rule), .fn (.fn 97) []]
abbrev io : List (Nat × Oi) := [(4, .dat (.int .i64))]
abbrev R : Type := DOut ia io
noncomputable def X (n : Nat) : Ctx := ⟨⟨tab, [F_entry_Rules_1.en n], 0, []⟩, 19, bnOf 0 ia⟩
abbrev g1 : List Si := [.dat 0 (.slice T_api_Rule), .clo 1 (.fn 97) [], .dat 7 (.int .i64), .dat 8 (.int .i64)]
abbrev g2 : List Si := []
noncomputable def T : CT := (.s .o (.s (.s .o (.b (.l g1 .o))) (.r g2 .o)))
noncomputable def J1 (n : Nat) (m : Nat) : (List (D_api_Rule)) × Int × Int × Unit → Option R := jL (X n) n T (bodyOf Tryz.f169) (endK ia io) g1 [1, 0, 1, 0] [] m
noncomputable def J2 (n : Nat) : Unit → Option R := jR (X n) n T (bodyOf Tryz.f169) (endK ia io) g2 [1, 1] []
noncomputable def f (n : Nat) (s_ : List (D_api_Rule)) : Option R := fRun (X n) n T Tryz.f169 ia io (s_, ())
theorem e0 (n : Nat) (s_ : List (D_api_Rule)) : f n s_ =
  J1 n n (s_, ((s_.length : Nat) : Int), 0, ()) := (hideF_eq _).trans (by kernel_rfl)
theorem e1 (n m : Nat) (s_ : List (D_api_Rule)) (t7 : Int) (t8 : Int) : J1 n (m + 1) (s_, t7, t8, ()) =
  bIf ((hide (decide (t8 < t7)))) (
    gIf (0 ≤ t8 ∧ t8 < ((s_.length : Nat) : Int)) (
      bnd (F_entry_Rules_1.f n (List.getD s_ t8.toNat (Va.dflt T_api_Rule))) fun u1 =>
      bIf (u1.1) (
        some (t8, ())
        ) (
        J1 n m (s_, t7, (IntKind.i64.wrap (t8 + (1 : Int))), ())
        )
      )
    ) (
    J2 n (())
    ) := (hideF_eq _).trans (by kernel_rfl)
theorem e2 (n : Nat) : J2 n (()) =
  some ((-1), ()) := (hideF_eq _).trans (by kernel_rfl)
theorem phi (n : Nat) : ∀ e ∈ (X n).c.Φ, EntryOk Tryz.prog e := allE_cons (mkEntry_ok (F_entry_Rules_1.ok n)) (allE_nil)
theorem ok (n : Nat) : FnOk Tryz.prog 169 ia io (fRun (X n) n T Tryz.f169 ia io) := tree_ok mixed tabIs (phi n) Tryz.func169 (by kernel_rfl) rfl
noncomputable def en (n : Nat) : Entry := mkEntry 169 ia io (fRun (X n) n T Tryz.f169 ia io)
end F_slices_IndexFunc_Rule
end Go.Proofs.YtfpedialdcgnhaaGreatDoor
namespace Go.Proofs.YtfpedialdcgnhaaGreatDoor
open Go Go.Va Go.Proofs
namespace F_slices_ContainsFunc_Rule
abbrev ia : List Ai := [.dat (.slice T_api_Rule), .fn (.fn 97) []]
abbrev io : List (Nat × Oi) := [(4, .dat .bool)]
abbrev R : Type := DOut ia io
noncomputable def X (n : Nat) : Ctx := ⟨⟨tab, [F_slices_IndexFunc_Rule.en n], 0, []⟩, 9, bnOf 0 ia⟩
noncomputable def T : CT := .o
noncomputable def f (n : Nat) (s_ : List (D_api_Rule)) : Option R := fRun (X n) n T Tryz.f96 ia io (s_, ())
theorem e0 (n : Nat) (s_ : List (D_api_Rule)) : f n s_ =
  bnd (F_slices_IndexFunc_Rule.f n s_) fun u1 =>
  some ((hide (decide (u1.1 ≥ (0 : Int)))), ()) := (hideF_eq _).trans (by kernel_rfl)
theorem phi (n : Nat) : ∀ e ∈ (X n).c.Φ, EntryOk Tryz.prog e := allE_cons (mkEntry_ok (F_slices_IndexFunc_Rule.ok n)) (allE_nil)
theorem ok (n : Nat) : FnOk Tryz.prog 96 ia io (fRun (X n) n T Tryz.f96 ia io) := tree_ok mixed tabIs (phi n) Tryz.func96 (by kernel_rfl) rfl
noncomputable def en (n : Nat) : Entry := mkEntry 96 ia io (fRun (X n) n T Tryz.f96 ia io)
end F_slices_ContainsFunc_Rule
end Go.Proofs.YtfpedialdcgnhaaGreatDoor
namespace Go.Proofs.YtfpedialdcgnhaaGreatDoor
open Go Go.Va Go.Proofs
namespace F_entry_Rules
abbrev ia : List Ai := [.dat (.slice T_api_Rule)]
abbrev io : List (Nat × Oi) := [(2, .dat .bool)]
abbrev R : Type := DOut ia io
noncomputable def X (n : Nat) : Ctx := ⟨⟨tab, [F_slices_ContainsFunc_Rule.en n], 0, []⟩, 11, bnOf 0 ia⟩
noncomputable def T : CT := .o
noncomputable def f (n : Nat) (list : List (D_api_Rule)) : Option R := fRun (X n) n T Tryz.f47 ia io (list, ())
theorem e0 (n : Nat) (list : List (D_api_Rule)) : f n list =
  bIf ((hide (decide (((list.length : Nat) : Int) ≤ (8 : Int))))) (
    bnd (F_slices_ContainsFunc_Rule.f n list) fun u1 =>
    some ((!u1.1), ())
    ) (
    some (false, ())
    ) := (hideF_eq _).trans (by kernel_rfl)
theorem phi (n : Nat) : ∀ e ∈ (X n).c.Φ, EntryOk Tryz.prog e := allE_cons (mkEntry_ok (F_slices_ContainsFunc_Rule.ok n)) (allE_nil)
theorem ok (n : Nat) : FnOk Tryz.prog 47 ia io (fRun (X n) n T Tryz.f47 ia io) := tree_ok mixed tabIs (phi n) Tryz.func47 (by kernel_rfl) rfl
noncomputable def en (n : Nat) : Entry := mkEntry 47 ia io (fRun (X n) n T Tryz.f47 ia io)
end F_entry_Rules
end Go.Proofs.YtfpedialdcgnhaaGreatDoor
namespace Go.Proofs.YtfpedialdcgnhaaGreatDoor
open Go Go.Va Go.Proofs
namespace F_ref14_Rules
abbrev ia : List Ai := [.dat (.slice T_api_Rule)]
abbrev io : List (Nat × Oi) := [(2, .dat .bool)]
abbrev R : Type := DOut ia io
noncomputable def X (n : Nat) : Ctx := ⟨⟨tab, [F_ref06_Clean.en n, F_ref08_Sound.en n], 0, []⟩, 54, bnOf 0 ia⟩
abbrev g1 : List Si := [.dat 0 (.slice T_api_Rule), .dat 3 (.int .i64)]
abbrev g2 : List Si := [.dat 0 (.slice T_api_Rule), .dat 3 (.int .i64)]
abbrev g3 : List Si := []
noncomputable def T : CT := (.s .o (.s .o (.s (.s .o (.b (.l g1 (.s .o (.s .o (.r g2 .o)))))) (.r g3 .o))))
noncomputable def J1 (n : Nat) (m : Nat) : (List (D_api_Rule)) × Int × Unit → Option R := jL (X n) n T (bodyOf Tryz.f28) (endK ia io) g1 [1, 1, 0, 1, 0] [] m
noncomputable def J2 (n m1 : Nat) : (List (D_api_Rule)) × Int × Unit → Option R := jR (X n) n T (bodyOf Tryz.f28) (endK ia io) g2 [1, 1, 0, 1, 0, 0, 1, 1] [m1]
noncomputable def J3 (n : Nat) : Unit → Option R := jR (X n) n T (bodyOf Tryz.f28) (endK ia io) g3 [1, 1, 1] []
noncomputable def f (n : Nat) (l : List (D_api_Rule)) : Option R := fRun (X n) n T Tryz.f28 ia io (l, ())
theorem e0 (n : Nat) (l : List (D_api_Rule)) : f n l =
  bIf ((hide (decide (((l.length : Nat) : Int) > (8 : Int))))) (
    some (false, ())
    ) (
    J1 n n (l, 0, ())
    ) := (hideF_eq _).trans (by kernel_rfl)
theorem e1 (n m : Nat) (l : List (D_api_Rule)) (i : Int) : J1 n (m + 1) (l, i, ()) =
  bIf ((hide (decide (i < ((l.length : Nat) : Int))))) (
    gIf (0 ≤ i ∧ i < ((l.length : Nat) : Int)) (
      bIf ((hide (decide ((((List.getD l i.toNat (Va.dflt T_api_Rule)).1).size : Int) > (200 : Int))))) (
        some (false, ())
        ) (
        bnd (F_ref06_Clean.f n ((List.getD l i.toNat (Va.dflt T_api_Rule)).1)) fun u1 =>
        bIf ((!u1.1)) (
          some (false, ())
          ) (
          bnd (F_ref08_Sound.f n (((List.getD l i.toNat (Va.dflt T_api_Rule)).2).1)) fun u2 =>
          bIf ((!u2.1)) (
            some (false, ())
            ) (
            bIf ((hide (decide (((((List.getD l i.toNat (Va.dflt T_api_Rule)).2).2).1) < (0 : Int))))) (
              some (false, ())
              ) (
              bIf ((hide (decide (((((List.getD l i.toNat (Va.dflt T_api_Rule)).2).2).1) > (36500 : Int))))) (
                some (false, ())
                ) (
                bIf ((hide (decide ((((((List.getD l i.toNat (Va.dflt T_api_Rule)).2).2).2).1) < (0 : Int))))) (
                  some (false, ())
                  ) (
                  bIf ((hide (decide ((((((List.getD l i.toNat (Va.dflt T_api_Rule)).2).2).2).1) > (36500 : Int))))) (
                    some (false, ())
                    ) (
                    J2 n m (l, i, ())
                    )
                  )
                )
              )
            )
          )
        )
      )
    ) (
    J3 n (())
    ) := (hideF_eq _).trans (by kernel_rfl)
theorem e2 (n m1 : Nat) (l : List (D_api_Rule)) (i : Int) : J2 n m1 (l, i, ()) =
  J1 n m1 (l, (IntKind.i64.wrap (i + (1 : Int))), ()) := (hideF_eq _).trans (by kernel_rfl)
theorem e3 (n : Nat) : J3 n (()) =
  some (true, ()) := (hideF_eq _).trans (by kernel_rfl)
theorem phi (n : Nat) : ∀ e ∈ (X n).c.Φ, EntryOk Tryz.prog e := allE_cons (mkEntry_ok (F_ref06_Clean.ok n)) (allE_cons (mkEntry_ok (F_ref08_Sound.ok n)) (allE_nil))
theorem ok (n : Nat) : FnOk Tryz.prog 28 ia io (fRun (X n) n T Tryz.f28 ia io) := tree_ok mixed tabIs (phi n) Tryz.func28 (by kernel_rfl) rfl
noncomputable def en (n : Nat) : Entry := mkEntry 28 ia io (fRun (X n) n T Tryz.f28 ia io)
end F_ref14_Rules
end Go.Proofs.YtfpedialdcgnhaaGreatDoor
namespace Go.Proofs.YtfpedialdcgnhaaGreatDoor
open Go Go.Va Go.Proofs
namespace F_entry_Grants_1
abbrev ia : List Ai := [.dat T_api_Grant]
abbrev io : List (Nat × Oi) := [(2, .dat .bool)]
abbrev R : Type := DOut ia io
noncomputable def X (n : Nat) : Ctx := ⟨⟨tab, [F_glob_Sound.en n], 0, []⟩, 19, bnOf 0 ia⟩
noncomputable def T : CT := .o
noncomputable def f (n : Nat) (g : D_api_Grant) : Option R := fRun (X n) n T Tryz.f100 ia io (g, ())
theorem e0 (n : Nat) (g : D_api_Grant) : f n g =
  bnd (F_glob_Sound.f n g.2.1) fun u1 =>
  bIf ((!u1.1)) (
    some (true, ())
    ) (
    bnd (F_glob_Sound.f n g.2.2.1) fun u2 =>
    bIf ((!u2.1)) (
      some (true, ())
      ) (
      bnd (F_glob_Sound.f n g.2.2.2.1) fun u3 =>
      some ((!u3.1), ())
      )
    ) := (hideF_eq _).trans (by kernel_rfl)
theorem phi (n : Nat) : ∀ e ∈ (X n).c.Φ, EntryOk Tryz.prog e := allE_cons (mkEntry_ok (F_glob_Sound.ok n)) (allE_nil)
theorem ok (n : Nat) : FnOk Tryz.prog 100 ia io (fRun (X n) n T Tryz.f100 ia io) := tree_ok mixed tabIs (phi n) Tryz.func100 (by kernel_rfl) rfl
noncomputable def en (n : Nat) : Entry := mkEntry 100 ia io (fRun (X n) n T Tryz.f100 ia io)
end F_entry_Grants_1
end Go.Proofs.YtfpedialdcgnhaaGreatDoor
namespace Go.Proofs.YtfpedialdcgnhaaGreatDoor
open Go Go.Va Go.Proofs
namespace F_slices_IndexFunc_Grant
abbrev ia : List Ai := [.dat (.slice T_api_Grant), .fn (.fn 100) []]
abbrev io : List (Nat × Oi) := [(4, .dat (.int .i64))]
abbrev R : Type := DOut ia io
noncomputable def X (n : Nat) : Ctx := ⟨⟨tab, [F_entry_Grants_1.en n], 0, []⟩, 19, bnOf 0 ia⟩
abbrev g1 : List Si := [.dat 0 (.slice T_api_Grant), .clo 1 (.fn 100) [], .dat 7 (.int .i64), .dat 8 (.int .i64)]
abbrev g2 : List Si := []
noncomputable def T : CT := (.s .o (.s (.s .o (.b (.l g1 .o))) (.r g2 .o)))
noncomputable def J1 (n : Nat) (m : Nat) : (List (D_api_Grant)) × Int × Int × Unit → Option R := jL (X n) n T (bodyOf Tryz.f170) (endK ia io) g1 [1, 0, 1, 0] [] m
noncomputable def J2 (n : Nat) : Unit → Option R := jR (X n) n T (bodyOf Tryz.f170) (endK ia io) g2 [1, 1] []
noncomputable def f (n : Nat) (s_ : List (D_api_Grant)) : Option R := fRun (X n) n T Tryz.f170 ia io (s_, ())
theorem e0 (n : Nat) (s_ : List (D_api_Grant)) : f n s_ =
  J1 n n (s_, ((s_.length : Nat) : Int), 0, ()) := (hideF_eq _).trans (by kernel_rfl)
theorem e1 (n m : Nat) (s_ : List (D_api_Grant)) (t7 : Int) (t8 : Int) : J1 n (m + 1) (s_, t7, t8, ()) =
  bIf ((hide (decide (t8 < t7)))) (
    gIf (0 ≤ t8 ∧ t8 < ((s_.length : Nat) : Int)) (
      bnd (F_entry_Grants_1.f n (List.getD s_ t8.toNat (Va.dflt T_api_Grant))) fun u1 =>
      bIf (u1.1) (
        some (t8, ())
        ) (
        J1 n m (s_, t7, (IntKind.i64.wrap (t8 + (1 : Int))), ())
        )
      )
    ) (
    J2 n (())
    ) := (hideF_eq _).trans (by kernel_rfl)
theorem e2 (n : Nat) : J2 n (()) =
  some ((-1), ()) := (hideF_eq _).trans (by kernel_rfl)
theorem phi (n : Nat) : ∀ e ∈ (X n).c.Φ, EntryOk Tryz.prog e := allE_cons (mkEntry_ok (F_entry_Grants_1.ok n)) (allE_nil)
theorem ok (n : Nat) : FnOk Tryz.prog 170 ia io (fRun (X n) n T Tryz.f170 ia io) := tree_ok mixed tabIs (phi n) Tryz.func170 (by kernel_rfl) rfl
noncomputable def en (n : Nat) : Entry := mkEntry 170 ia io (fRun (X n) n T Tryz.f170 ia io)
end F_slices_IndexFunc_Grant
end Go.Proofs.YtfpedialdcgnhaaGreatDoor
namespace Go.Proofs.YtfpedialdcgnhaaGreatDoor
open Go Go.Va Go.Proofs
namespace F_slices_ContainsFunc_Grant
abbrev ia : List Ai := [.dat (.slice T_api_Grant), .fn (.fn 100) []]
abbrev io : List (Nat × Oi) := [(4, .dat .bool)]
abbrev R : Type := DOut ia io
noncomputable def X (n : Nat) : Ctx := ⟨⟨tab, [F_slices_IndexFunc_Grant.en n], 0, []⟩, 9, bnOf 0 ia⟩
noncomputable def T : CT := .o
noncomputable def f (n : Nat) (s_ : List (D_api_Grant)) : Option R := fRun (X n) n T Tryz.f99 ia io (s_, ())
theorem e0 (n : Nat) (s_ : List (D_api_Grant)) : f n s_ =
  bnd (F_slices_IndexFunc_Grant.f n s_) fun u1 =>
  some ((hide (decide (u1.1 ≥ (0 : Int)))), ()) := (hideF_eq _).trans (by kernel_rfl)
theorem phi (n : Nat) : ∀ e ∈ (X n).c.Φ, EntryOk Tryz.prog e := allE_cons (mkEntry_ok (F_slices_IndexFunc_Grant.ok n)) (allE_nil)
theorem ok (n : Nat) : FnOk Tryz.prog 99 ia io (fRun (X n) n T Tryz.f99 ia io) := tree_ok mixed tabIs (phi n) Tryz.func99 (by kernel_rfl) rfl
noncomputable def en (n : Nat) : Entry := mkEntry 99 ia io (fRun (X n) n T Tryz.f99 ia io)
end F_slices_ContainsFunc_Grant
end Go.Proofs.YtfpedialdcgnhaaGreatDoor
namespace Go.Proofs.YtfpedialdcgnhaaGreatDoor
open Go Go.Va Go.Proofs
namespace F_entry_Grants
abbrev ia : List Ai := [.dat (.slice T_api_Grant)]
abbrev io : List (Nat × Oi) := [(2, .dat .bool)]
abbrev R : Type := DOut ia io
noncomputable def X (n : Nat) : Ctx := ⟨⟨tab, [F_slices_ContainsFunc_Grant.en n], 0, []⟩, 11, bnOf 0 ia⟩
noncomputable def T : CT := .o
noncomputable def f (n : Nat) (list : List (D_api_Grant)) : Option R := fRun (X n) n T Tryz.f48 ia io (list, ())
theorem e0 (n : Nat) (list : List (D_api_Grant)) : f n list =
  bIf ((hide (decide (((list.length : Nat) : Int) ≤ (8 : Int))))) (
    bnd (F_slices_ContainsFunc_Grant.f n list) fun u1 =>
    some ((!u1.1), ())
    ) (
    some (false, ())
    ) := (hideF_eq _).trans (by kernel_rfl)
theorem phi (n : Nat) : ∀ e ∈ (X n).c.Φ, EntryOk Tryz.prog e := allE_cons (mkEntry_ok (F_slices_ContainsFunc_Grant.ok n)) (allE_nil)
theorem ok (n : Nat) : FnOk Tryz.prog 48 ia io (fRun (X n) n T Tryz.f48 ia io) := tree_ok mixed tabIs (phi n) Tryz.func48 (by kernel_rfl) rfl
noncomputable def en (n : Nat) : Entry := mkEntry 48 ia io (fRun (X n) n T Tryz.f48 ia io)
end F_entry_Grants
end Go.Proofs.YtfpedialdcgnhaaGreatDoor
namespace Go.Proofs.YtfpedialdcgnhaaGreatDoor
open Go Go.Va Go.Proofs
namespace F_ref14_Grants
abbrev ia : List Ai := [.dat (.slice T_api_Grant)]
abbrev io : List (Nat × Oi) := [(2, .dat .bool)]
abbrev R : Type := DOut ia io
noncomputable def X (n : Nat) : Ctx := ⟨⟨tab, [F_ref07_Sound.en n], 0, []⟩, 38, bnOf 0 ia⟩
abbrev g1 : List Si := [.dat 0 (.slice T_api_Grant), .dat 3 (.int .i64)]
abbrev g2 : List Si := [.dat 0 (.slice T_api_Grant), .dat 3 (.int .i64)]
abbrev g3 : List Si := []
noncomputable def T : CT := (.s .o (.s .o (.s (.s .o (.b (.l g1 (.s .o (.s .o (.r g2 .o)))))) (.r g3 .o))))
noncomputable def J1 (n : Nat) (m : Nat) : (List (D_api_Grant)) × Int × Unit → Option R := jL (X n) n T (bodyOf Tryz.f29) (endK ia io) g1 [1, 1, 0, 1, 0] [] m
noncomputable def J2 (n m1 : Nat) : (List (D_api_Grant)) × Int × Unit → Option R := jR (X n) n T (bodyOf Tryz.f29) (endK ia io) g2 [1, 1, 0, 1, 0, 0, 1, 1] [m1]
noncomputable def J3 (n : Nat) : Unit → Option R := jR (X n) n T (bodyOf Tryz.f29) (endK ia io) g3 [1, 1, 1] []
noncomputable def f (n : Nat) (l : List (D_api_Grant)) : Option R := fRun (X n) n T Tryz.f29 ia io (l, ())
theorem e0 (n : Nat) (l : List (D_api_Grant)) : f n l =
  bIf ((hide (decide (((l.length : Nat) : Int) > (8 : Int))))) (
    some (false, ())
    ) (
    J1 n n (l, 0, ())
    ) := (hideF_eq _).trans (by kernel_rfl)
theorem e1 (n m : Nat) (l : List (D_api_Grant)) (i : Int) : J1 n (m + 1) (l, i, ()) =
  bIf ((hide (decide (i < ((l.length : Nat) : Int))))) (
    gIf (0 ≤ i ∧ i < ((l.length : Nat) : Int)) (
      bnd (F_ref07_Sound.f n (((List.getD l i.toNat (Va.dflt T_api_Grant)).2).1)) fun u1 =>
      bIf ((!u1.1)) (
        some (false, ())
        ) (
        gIf (0 ≤ i ∧ i < ((l.length : Nat) : Int)) (
          bnd (F_ref07_Sound.f n ((((List.getD l i.toNat (Va.dflt T_api_Grant)).2).2).1)) fun u2 =>
          bIf ((!u2.1)) (
            some (false, ())
            ) (
            gIf (0 ≤ i ∧ i < ((l.length : Nat) : Int)) (
              bnd (F_ref07_Sound.f n (((((List.getD l i.toNat (Va.dflt T_api_Grant)).2).2).2).1)) fun u3 =>
              bIf ((!u3.1)) (
                some (false, ())
                ) (
                J2 n m (l, i, ())
                )
              )
            )
          )
        )
      )
    ) (
    J3 n (())
    ) := (hideF_eq _).trans (by kernel_rfl)
theorem e2 (n m1 : Nat) (l : List (D_api_Grant)) (i : Int) : J2 n m1 (l, i, ()) =
  J1 n m1 (l, (IntKind.i64.wrap (i + (1 : Int))), ()) := (hideF_eq _).trans (by kernel_rfl)
theorem e3 (n : Nat) : J3 n (()) =
  some (true, ()) := (hideF_eq _).trans (by kernel_rfl)
theorem phi (n : Nat) : ∀ e ∈ (X n).c.Φ, EntryOk Tryz.prog e := allE_cons (mkEntry_ok (F_ref07_Sound.ok n)) (allE_nil)
theorem ok (n : Nat) : FnOk Tryz.prog 29 ia io (fRun (X n) n T Tryz.f29 ia io) := tree_ok mixed tabIs (phi n) Tryz.func29 (by kernel_rfl) rfl
noncomputable def en (n : Nat) : Entry := mkEntry 29 ia io (fRun (X n) n T Tryz.f29 ia io)
end F_ref14_Grants
end Go.Proofs.YtfpedialdcgnhaaGreatDoor
namespace Go.Proofs.YtfpedialdcgnhaaGreatDoor
open Go Go.Va Go.Proofs
namespace F_label_address
abbrev ia : List Ai := [.dat .str]
abbrev io : List (Nat × Oi) := [(2, .dat .bool)]
abbrev R : Type := DOut ia io
noncomputable def X (n : Nat) : Ctx := ⟨⟨tab, [F_strings_Split.en, F_strings_Trim.en], 0, []⟩, 30, bnOf 0 ia⟩
abbrev g1 : List Si := [.val 11 (.r 201100 .str), .dat 12 (.int .i64), .dat 13 (.int .i64)]
abbrev g2 : List Si := []
noncomputable def T : CT := (.s .o (.s .o (.s .o (.s (.s .o (.b (.l g1 .o))) (.r g2 .o)))))
noncomputable def J1 (n : Nat) (m : Nat) : (List (ByteArray)) × Int × Int × Unit → Option R := jL (X n) n T (bodyOf Tryz.f43) (endK ia io) g1 [1, 1, 1, 0, 1, 0] [] m
noncomputable def J2 (n : Nat) : Unit → Option R := jR (X n) n T (bodyOf Tryz.f43) (endK ia io) g2 [1, 1, 1, 1] []
noncomputable def f (n : Nat) (s_ : ByteArray) : Option R := fRun (X n) n T Tryz.f43 ia io (s_, ())
theorem e0 (n : Nat) (s_ : ByteArray) : f n s_ =
  bnd (F_strings_Split.f s_ (⟨#[46]⟩ : ByteArray)) fun u1 =>
  bIf ((hide (((u1.1.length : Nat) : Int) != (4 : Int)))) (
    some (false, ())
    ) (
    J1 n n (u1.1, ((u1.1.length : Nat) : Int), 0, ())
    ) := (hideF_eq _).trans (by kernel_rfl)
theorem e1 (n m : Nat) (t11 : List (ByteArray)) (t12 : Int) (t13 : Int) : J1 n (m + 1) (t11, t12, t13, ()) =
  bIf ((hide (decide (t13 < t12)))) (
    gIf (0 ≤ t13 ∧ t13 < ((t11.length : Nat) : Int)) (
      bIf ((hide (eqS (List.getD t11 (0 + t13.toNat) (⟨#[]⟩ : ByteArray)) (⟨#[]⟩ : ByteArray)))) (
        some (false, ())
        ) (
        bIf ((hide (decide (((List.getD t11 (0 + t13.toNat) (⟨#[]⟩ : ByteArray)).size : Int) > (3 : Int))))) (
          some (false, ())
          ) (
          bnd (F_strings_Trim.f (List.getD t11 (0 + t13.toNat) (⟨#[]⟩ : ByteArray)) (⟨#[48, 49, 50, 51, 52, 53, 54, 55, 56, 57]⟩ : ByteArray)) fun u1 =>
          bIf ((hide (!eqS u1.1 (⟨#[]⟩ : ByteArray)))) (
            some (false, ())
            ) (
            J1 n m (t11, t12, (IntKind.i64.wrap (t13 + (1 : Int))), ())
            )
          )
        )
      )
    ) (
    J2 n (())
    ) := (hideF_eq _).trans (by kernel_rfl)
theorem e2 (n : Nat) : J2 n (()) =
  some (true, ()) := (hideF_eq _).trans (by kernel_rfl)
theorem phi (n : Nat) : ∀ e ∈ (X n).c.Φ, EntryOk Tryz.prog e := allE_cons (mkEntry_ok (F_strings_Split.ok)) (allE_cons (mkEntry_ok (F_strings_Trim.ok)) (allE_nil))
theorem ok (n : Nat) : FnOk Tryz.prog 43 ia io (fRun (X n) n T Tryz.f43 ia io) := tree_ok mixed tabIs (phi n) Tryz.func43 (by kernel_rfl) rfl
noncomputable def en (n : Nat) : Entry := mkEntry 43 ia io (fRun (X n) n T Tryz.f43 ia io)
end F_label_address
end Go.Proofs.YtfpedialdcgnhaaGreatDoor
namespace Go.Proofs.YtfpedialdcgnhaaGreatDoor
open Go Go.Va Go.Proofs
namespace F_label_among
abbrev ia : List Ai := [.dat .str, .dat (.int .u8)]
abbrev io : List (Nat × Oi) := [(4, .dat .bool)]
abbrev R : Type := DOut ia io
noncomputable def X (n : Nat) : Ctx := ⟨⟨tab, [F_strings_IndexByte.en], 0, []⟩, 9, bnOf 0 ia⟩
noncomputable def T : CT := .o
noncomputable def f (n : Nat) (some_ : ByteArray) (b : Int) : Option R := fRun (X n) n T Tryz.f44 ia io (some_, b, ())
theorem e0 (n : Nat) (some_ : ByteArray) (b : Int) : f n some_ b =
  bnd (F_strings_IndexByte.f some_ b) fun u1 =>
  some ((hide (decide (u1.1 ≥ (0 : Int)))), ()) := (hideF_eq _).trans (by kernel_rfl)
theorem phi (n : Nat) : ∀ e ∈ (X n).c.Φ, EntryOk Tryz.prog e := allE_cons (mkEntry_ok (F_strings_IndexByte.ok)) (allE_nil)
theorem ok (n : Nat) : FnOk Tryz.prog 44 ia io (fRun (X n) n T Tryz.f44 ia io) := tree_ok mixed tabIs (phi n) Tryz.func44 (by kernel_rfl) rfl
noncomputable def en (n : Nat) : Entry := mkEntry 44 ia io (fRun (X n) n T Tryz.f44 ia io)
end F_label_among
end Go.Proofs.YtfpedialdcgnhaaGreatDoor
namespace Go.Proofs.YtfpedialdcgnhaaGreatDoor
open Go Go.Va Go.Proofs
namespace F_label_Bucket
abbrev ia : List Ai := [.dat .str]
abbrev io : List (Nat × Oi) := [(2, .dat .bool)]
abbrev R : Type := DOut ia io
noncomputable def X (n : Nat) : Ctx := ⟨⟨tab, [F_label_address.en n, F_label_among.en n], 0, []⟩, 68, bnOf 0 ia⟩
abbrev g1 : List Si := [.dat 0 .str]
abbrev g2 : List Si := [.dat 0 .str, .dat 18 (.int .i64), .dat 19 (.int .i64)]
abbrev g3 : List Si := [.dat 0 .str, .dat 3 (.int .i64), .dat 18 (.int .i64), .dat 19 (.int .i64)]
abbrev g4 : List Si := []
noncomputable def T : CT := (.s .o (.s .o (.r g1 (.s (.s .o (.b (.l g2 (.s .o (.s .o (.s (.b (.s .o (.s .o (.s .o (.r g3 .o))))) .o)))))) (.r g4 .o)))))
noncomputable def J1 (n : Nat) : ByteArray × Unit → Option R := jR (X n) n T (bodyOf Tryz.f16) (endK ia io) g1 [1, 1] []
noncomputable def J2 (n : Nat) (m : Nat) : ByteArray × Int × Int × Unit → Option R := jL (X n) n T (bodyOf Tryz.f16) (endK ia io) g2 [1, 1, 0, 1, 0] [] m
noncomputable def J3 (n m2 : Nat) : ByteArray × Int × Int × Int × Unit → Option R := jR (X n) n T (bodyOf Tryz.f16) (endK ia io) g3 [1, 1, 0, 1, 0, 0, 1, 1, 0, 0, 1, 1, 1] [m2]
noncomputable def J4 (n : Nat) : Unit → Option R := jR (X n) n T (bodyOf Tryz.f16) (endK ia io) g4 [1, 1, 1] []
noncomputable def f (n : Nat) (s_ : ByteArray) : Option R := fRun (X n) n T Tryz.f16 ia io (s_, ())
theorem e0 (n : Nat) (s_ : ByteArray) : f n s_ =
  bIf ((hide (decide ((s_.size : Int) < (3 : Int))))) (
    some (false, ())
    ) (
    bIf ((hide (decide ((s_.size : Int) > (63 : Int))))) (
      some (false, ())
      ) (
      bnd (F_label_address.f n s_) fun u1 =>
      bIf (u1.1) (
        some (false, ())
        ) (
        J1 n (s_, ())
        )
      )
    ) := (hideF_eq _).trans (by kernel_rfl)
theorem e1 (n : Nat) (s_ : ByteArray) : J1 n (s_, ()) =
  J2 n n (s_, (s_.size : Int), 0, ()) := (hideF_eq _).trans (by kernel_rfl)
theorem e2 (n m : Nat) (s_ : ByteArray) (t18 : Int) (t19 : Int) : J2 n (m + 1) (s_, t18, t19, ()) =
  bIf ((hide (decide (t19 < t18)))) (
    gIf (0 ≤ t19 ∧ t19 < (s_.size : Int)) (
      bnd (F_label_among.f n (⟨#[97, 98, 99, 100, 101, 102, 103, 104, 105, 106, 107, 108, 109, 110, 111, 112, 113, 114, 115, 116, 117, 118, 119, 120, 121, 122, 48, 49, 50, 51, 52, 53, 54, 55, 56, 57]⟩ : ByteArray) (bt s_ t19)) fun u1 =>
      bIf (u1.1) (
        J2 n m (s_, t18, (IntKind.i64.wrap (t19 + (1 : Int))), ())
        ) (
        gIf (0 ≤ t19 ∧ t19 < (s_.size : Int)) (
          bIf ((hide ((bt s_ t19) != (45 : Int)))) (
            gIf (0 ≤ t19 ∧ t19 < (s_.size : Int)) (
              bIf ((hide ((bt s_ t19) != (46 : Int)))) (
                some (false, ())
                ) (
                bIf ((hide (t19 == (0 : Int)))) (
                  some (false, ())
                  ) (
                  bIf ((hide (t19 == (IntKind.i64.wrap ((s_.size : Int) - (1 : Int)))))) (
                    some (false, ())
                    ) (
                    J3 n m (s_, t19, t18, t19, ())
                    )
                  )
                )
              )
            ) (
            bIf ((hide (t19 == (0 : Int)))) (
              some (false, ())
              ) (
              bIf ((hide (t19 == (IntKind.i64.wrap ((s_.size : Int) - (1 : Int)))))) (
                some (false, ())
                ) (
                J3 n m (s_, t19, t18, t19, ())
                )
              )
            )
          )
        )
      )
    ) (
    J4 n (())
    ) := (hideF_eq _).trans (by kernel_rfl)
theorem e3 (n m2 : Nat) (s_ : ByteArray) (i : Int) (t18 : Int) (t19 : Int) : J3 n m2 (s_, i, t18, t19, ()) =
  gIf (0 ≤ (IntKind.i64.wrap (i + (1 : Int))) ∧ (IntKind.i64.wrap (i + (1 : Int))) < (s_.size : Int)) (
    bIf ((hide ((bt s_ (IntKind.i64.wrap (i + (1 : Int)))) == (46 : Int)))) (
      gIf (0 ≤ i ∧ i < (s_.size : Int)) (
        bIf ((hide ((bt s_ i) == (46 : Int)))) (
          some (false, ())
          ) (
          bIf ((hide ((bt s_ (IntKind.i64.wrap (i + (1 : Int)))) == (46 : Int)))) (
            some (false, ())
            ) (
            J2 n m2 (s_, t18, (IntKind.i64.wrap (t19 + (1 : Int))), ())
            )
          )
        )
      ) (
      bIf ((hide ((bt s_ (IntKind.i64.wrap (i + (1 : Int)))) == (45 : Int)))) (
        gIf (0 ≤ i ∧ i < (s_.size : Int)) (
          bIf ((hide ((bt s_ i) == (46 : Int)))) (
            some (false, ())
            ) (
            bIf ((hide ((bt s_ (IntKind.i64.wrap (i + (1 : Int)))) == (46 : Int)))) (
              some (false, ())
              ) (
              J2 n m2 (s_, t18, (IntKind.i64.wrap (t19 + (1 : Int))), ())
              )
            )
          )
        ) (
        J2 n m2 (s_, t18, (IntKind.i64.wrap (t19 + (1 : Int))), ())
        )
      )
    ) := (hideF_eq _).trans (by kernel_rfl)
theorem e4 (n : Nat) : J4 n (()) =
  some (true, ()) := (hideF_eq _).trans (by kernel_rfl)
theorem phi (n : Nat) : ∀ e ∈ (X n).c.Φ, EntryOk Tryz.prog e := allE_cons (mkEntry_ok (F_label_address.ok n)) (allE_cons (mkEntry_ok (F_label_among.ok n)) (allE_nil))
theorem ok (n : Nat) : FnOk Tryz.prog 16 ia io (fRun (X n) n T Tryz.f16 ia io) := tree_ok mixed tabIs (phi n) Tryz.func16 (by kernel_rfl) rfl
noncomputable def en (n : Nat) : Entry := mkEntry 16 ia io (fRun (X n) n T Tryz.f16 ia io)
end F_label_Bucket
end Go.Proofs.YtfpedialdcgnhaaGreatDoor
namespace Go.Proofs.YtfpedialdcgnhaaGreatDoor
open Go Go.Va Go.Proofs
namespace F_ref06_four
abbrev ia : List Ai := [.dat .str]
abbrev io : List (Nat × Oi) := [(2, .dat .bool)]
abbrev R : Type := DOut ia io
noncomputable def X (n : Nat) : Ctx := ⟨⟨tab, [], 0, []⟩, 42, bnOf 0 ia⟩
abbrev g1 : List Si := [.dat 0 .str, .dat 3 (.int .i64), .dat 4 (.int .i64), .dat 5 (.int .i64)]
abbrev g2 : List Si := [.dat 0 .str, .dat 3 (.int .i64), .dat 4 (.int .i64), .dat 5 (.int .i64)]
abbrev g3 : List Si := [.dat 3 (.int .i64), .dat 4 (.int .i64)]
noncomputable def T : CT := (.s .o (.s .o (.s (.s .o (.b (.l g1 (.s .o (.s .o (.r g2 .o)))))) (.r g3 .o))))
noncomputable def J1 (n : Nat) (m : Nat) : ByteArray × Int × Int × Int × Unit → Option R := jL (X n) n T (bodyOf Tryz.f60) (endK ia io) g1 [1, 1, 0, 1, 0] [] m
noncomputable def J2 (n m1 : Nat) : ByteArray × Int × Int × Int × Unit → Option R := jR (X n) n T (bodyOf Tryz.f60) (endK ia io) g2 [1, 1, 0, 1, 0, 0, 1, 1] [m1]
noncomputable def J3 (n : Nat) : Int × Int × Unit → Option R := jR (X n) n T (bodyOf Tryz.f60) (endK ia io) g3 [1, 1, 1] []
noncomputable def f (n : Nat) (s_ : ByteArray) : Option R := fRun (X n) n T Tryz.f60 ia io (s_, ())
theorem e0 (n : Nat) (s_ : ByteArray) : f n s_ =
  J1 n n (s_, 0, 0, 0, ()) := (hideF_eq _).trans (by kernel_rfl)
theorem e1 (n m : Nat) (s_ : ByteArray) (points : Int) (digits : Int) (i : Int) : J1 n (m + 1) (s_, points, digits, i, ()) =
  bIf ((hide (decide (i < (s_.size : Int))))) (
    gIf (0 ≤ i ∧ i < (s_.size : Int)) (
      bIf ((hide ((bt s_ i) == (46 : Int)))) (
        bIf ((hide (digits == (0 : Int)))) (
          some (false, ())
          ) (
          J2 n m (s_, (IntKind.i64.wrap (points + (1 : Int))), 0, i, ())
          )
        ) (
        gIf (0 ≤ i ∧ i < (s_.size : Int)) (
          bIf ((hide (decide ((bt s_ i) < (48 : Int))))) (
            some (false, ())
            ) (
            gIf (0 ≤ i ∧ i < (s_.size : Int)) (
              bIf ((hide (decide ((bt s_ i) > (57 : Int))))) (
                some (false, ())
                ) (
                bIf ((hide (decide ((IntKind.i64.wrap (digits + (1 : Int))) > (3 : Int))))) (
                  some (false, ())
                  ) (
                  J2 n m (s_, points, (IntKind.i64.wrap (digits + (1 : Int))), i, ())
                  )
                )
              )
            )
          )
        )
      )
    ) (
    J3 n (points, digits, ())
    ) := (hideF_eq _).trans (by kernel_rfl)
theorem e2 (n m1 : Nat) (s_ : ByteArray) (points : Int) (digits : Int) (i : Int) : J2 n m1 (s_, points, digits, i, ()) =
  J1 n m1 (s_, points, digits, (IntKind.i64.wrap (i + (1 : Int))), ()) := (hideF_eq _).trans (by kernel_rfl)
theorem e3 (n : Nat) (points : Int) (digits : Int) : J3 n (points, digits, ()) =
  bIf ((hide (points == (3 : Int)))) (
    some ((hide (decide (digits > (0 : Int)))), ())
    ) (
    some (false, ())
    ) := (hideF_eq _).trans (by kernel_rfl)
theorem phi (n : Nat) : ∀ e ∈ (X n).c.Φ, EntryOk Tryz.prog e := allE_nil
theorem ok (n : Nat) : FnOk Tryz.prog 60 ia io (fRun (X n) n T Tryz.f60 ia io) := tree_ok mixed tabIs (phi n) Tryz.func60 (by kernel_rfl) rfl
noncomputable def en (n : Nat) : Entry := mkEntry 60 ia io (fRun (X n) n T Tryz.f60 ia io)
end F_ref06_four
end Go.Proofs.YtfpedialdcgnhaaGreatDoor
namespace Go.Proofs.YtfpedialdcgnhaaGreatDoor
open Go Go.Va Go.Proofs
namespace F_ref06_low
abbrev ia : List Ai := [.dat (.int .u8)]
abbrev io : List (Nat × Oi) := [(2, .dat .bool)]
abbrev R : Type := DOut ia io
noncomputable def X (n : Nat) : Ctx := ⟨⟨tab, [], 0, []⟩, 17, bnOf 0 ia⟩
noncomputable def T : CT := .o
noncomputable def f (n : Nat) (b : Int) : Option R := fRun (X n) n T Tryz.f59 ia io (b, ())
theorem e0 (n : Nat) (b : Int) : f n b =
  bIf ((hide (decide (b ≥ (97 : Int))))) (
    bIf ((hide (decide (b ≤ (122 : Int))))) (
      some (true, ())
      ) (
      bIf ((hide (decide (b ≥ (48 : Int))))) (
        some ((hide (decide (b ≤ (57 : Int)))), ())
        ) (
        some (false, ())
        )
      )
    ) (
    bIf ((hide (decide (b ≥ (48 : Int))))) (
      some ((hide (decide (b ≤ (57 : Int)))), ())
      ) (
      some (false, ())
      )
    ) := (hideF_eq _).trans (by kernel_rfl)
theorem phi (n : Nat) : ∀ e ∈ (X n).c.Φ, EntryOk Tryz.prog e := allE_nil
theorem ok (n : Nat) : FnOk Tryz.prog 59 ia io (fRun (X n) n T Tryz.f59 ia io) := tree_ok mixed tabIs (phi n) Tryz.func59 (by kernel_rfl) rfl
noncomputable def en (n : Nat) : Entry := mkEntry 59 ia io (fRun (X n) n T Tryz.f59 ia io)
end F_ref06_low
end Go.Proofs.YtfpedialdcgnhaaGreatDoor
namespace Go.Proofs.YtfpedialdcgnhaaGreatDoor
open Go Go.Va Go.Proofs
namespace F_ref06_Bucket
abbrev ia : List Ai := [.dat .str]
abbrev io : List (Nat × Oi) := [(2, .dat .bool)]
abbrev R : Type := DOut ia io
noncomputable def X (n : Nat) : Ctx := ⟨⟨tab, [F_ref06_low.en n, F_ref06_four.en n], 0, []⟩, 85, bnOf 0 ia⟩
abbrev g1 : List Si := [.dat 0 .str]
abbrev g2 : List Si := [.dat 0 .str, .dat 3 (.int .i64)]
abbrev g3 : List Si := [.dat 0 .str, .dat 3 (.int .i64)]
abbrev g4 : List Si := [.dat 0 .str, .dat 3 (.int .i64)]
abbrev g5 : List Si := []
noncomputable def T : CT := (.s .o (.s .o (.r g1 (.s (.s .o (.b (.l g2 (.s .o (.s (.b (.s .o (.r g3 .o))) (.r g4 .o)))))) (.r g5 .o)))))
noncomputable def J1 (n : Nat) : ByteArray × Unit → Option R := jR (X n) n T (bodyOf Tryz.f20) (endK ia io) g1 [1, 1] []
noncomputable def J2 (n : Nat) (m : Nat) : ByteArray × Int × Unit → Option R := jL (X n) n T (bodyOf Tryz.f20) (endK ia io) g2 [1, 1, 0, 1, 0] [] m
noncomputable def J3 (n m2 : Nat) : ByteArray × Int × Unit → Option R := jR (X n) n T (bodyOf Tryz.f20) (endK ia io) g3 [1, 1, 0, 1, 0, 0, 1, 0, 0, 1] [m2]
noncomputable def J4 (n m2 : Nat) : ByteArray × Int × Unit → Option R := jR (X n) n T (bodyOf Tryz.f20) (endK ia io) g4 [1, 1, 0, 1, 0, 0, 1, 1] [m2]
noncomputable def J5 (n : Nat) : Unit → Option R := jR (X n) n T (bodyOf Tryz.f20) (endK ia io) g5 [1, 1, 1] []
noncomputable def f (n : Nat) (s_ : ByteArray) : Option R := fRun (X n) n T Tryz.f20 ia io (s_, ())
theorem e0 (n : Nat) (s_ : ByteArray) : f n s_ =
  bIf ((hide (decide ((s_.size : Int) < (3 : Int))))) (
    some (false, ())
    ) (
    bIf ((hide (decide ((s_.size : Int) > (63 : Int))))) (
      some (false, ())
      ) (
      gIf (0 ≤ (0 : Int) ∧ (0 : Int) < (s_.size : Int)) (
        bnd (F_ref06_low.f n (bt s_ 0)) fun u1 =>
        bIf ((!u1.1)) (
          some (false, ())
          ) (
          gIf (0 ≤ (IntKind.i64.wrap ((s_.size : Int) - (1 : Int))) ∧ (IntKind.i64.wrap ((s_.size : Int) - (1 : Int))) < (s_.size : Int)) (
            bnd (F_ref06_low.f n (bt s_ (IntKind.i64.wrap ((s_.size : Int) - (1 : Int))))) fun u2 =>
            bIf ((!u2.1)) (
              some (false, ())
              ) (
              bnd (F_ref06_four.f n s_) fun u3 =>
              bIf (u3.1) (
                some (false, ())
                ) (
                J1 n (s_, ())
                )
              )
            )
          )
        )
      )
    ) := (hideF_eq _).trans (by kernel_rfl)
theorem e1 (n : Nat) (s_ : ByteArray) : J1 n (s_, ()) =
  J2 n n (s_, 0, ()) := (hideF_eq _).trans (by kernel_rfl)
theorem e2 (n m : Nat) (s_ : ByteArray) (i : Int) : J2 n (m + 1) (s_, i, ()) =
  bIf ((hide (decide (i < (s_.size : Int))))) (
    gIf (0 ≤ i ∧ i < (s_.size : Int)) (
      bnd (F_ref06_low.f n (bt s_ i)) fun u1 =>
      bIf ((!u1.1)) (
        gIf (0 ≤ i ∧ i < (s_.size : Int)) (
          bIf ((hide ((bt s_ i) != (45 : Int)))) (
            gIf (0 ≤ i ∧ i < (s_.size : Int)) (
              bIf ((hide ((bt s_ i) != (46 : Int)))) (
                some (false, ())
                ) (
                J3 n m (s_, i, ())
                )
              )
            ) (
            J3 n m (s_, i, ())
            )
          )
        ) (
        J3 n m (s_, i, ())
        )
      )
    ) (
    J5 n (())
    ) := (hideF_eq _).trans (by kernel_rfl)
theorem e3 (n m2 : Nat) (s_ : ByteArray) (i : Int) : J3 n m2 (s_, i, ()) =
  bIf ((hide (decide (i > (0 : Int))))) (
    gIf (0 ≤ i ∧ i < (s_.size : Int)) (
      bnd (F_ref06_low.f n (bt s_ i)) fun u1 =>
      bIf ((!u1.1)) (
        gIf (0 ≤ (IntKind.i64.wrap (i - (1 : Int))) ∧ (IntKind.i64.wrap (i - (1 : Int))) < (s_.size : Int)) (
          bnd (F_ref06_low.f n (bt s_ (IntKind.i64.wrap (i - (1 : Int))))) fun u2 =>
          bIf ((!u2.1)) (
            gIf (0 ≤ i ∧ i < (s_.size : Int)) (
              bIf ((hide ((bt s_ i) == (45 : Int)))) (
                gIf (0 ≤ (IntKind.i64.wrap (i - (1 : Int))) ∧ (IntKind.i64.wrap (i - (1 : Int))) < (s_.size : Int)) (
                  bIf ((!(hide ((bt s_ (IntKind.i64.wrap (i - (1 : Int)))) == (45 : Int))))) (
                    some (false, ())
                    ) (
                    J4 n m2 (s_, i, ())
                    )
                  )
                ) (
                some (false, ())
                )
              )
            ) (
            J4 n m2 (s_, i, ())
            )
          )
        ) (
        J4 n m2 (s_, i, ())
        )
      )
    ) (
    J4 n m2 (s_, i, ())
    ) := (hideF_eq _).trans (by kernel_rfl)
theorem e4 (n m2 : Nat) (s_ : ByteArray) (i : Int) : J4 n m2 (s_, i, ()) =
  J2 n m2 (s_, (IntKind.i64.wrap (i + (1 : Int))), ()) := (hideF_eq _).trans (by kernel_rfl)
theorem e5 (n : Nat) : J5 n (()) =
  some (true, ()) := (hideF_eq _).trans (by kernel_rfl)
theorem phi (n : Nat) : ∀ e ∈ (X n).c.Φ, EntryOk Tryz.prog e := allE_cons (mkEntry_ok (F_ref06_low.ok n)) (allE_cons (mkEntry_ok (F_ref06_four.ok n)) (allE_nil))
theorem ok (n : Nat) : FnOk Tryz.prog 20 ia io (fRun (X n) n T Tryz.f20 ia io) := tree_ok mixed tabIs (phi n) Tryz.func20 (by kernel_rfl) rfl
noncomputable def en (n : Nat) : Entry := mkEntry 20 ia io (fRun (X n) n T Tryz.f20 ia io)
end F_ref06_Bucket
end Go.Proofs.YtfpedialdcgnhaaGreatDoor
namespace Go.Proofs.YtfpedialdcgnhaaGreatDoor
open Go Go.Va Go.Proofs
namespace F_acts_anywhere
abbrev ia : List Ai := [.dat (.int .i64)]
abbrev io : List (Nat × Oi) := [(2, .dat .bool)]
abbrev R : Type := DOut ia io
noncomputable def X (n : Nat) : Ctx := ⟨⟨tab, [], 0, []⟩, 9, bnOf 0 ia⟩
noncomputable def T : CT := .o
noncomputable def f (n : Nat) (kind : Int) : Option R := fRun (X n) n T Tryz.f15 ia io (kind, ())
theorem e0 (n : Nat) (kind : Int) : f n kind =
  bIf ((hide (kind == (21 : Int)))) (
    some (true, ())
    ) (
    some ((hide (kind == (22 : Int))), ())
    ) := (hideF_eq _).trans (by kernel_rfl)
theorem phi (n : Nat) : ∀ e ∈ (X n).c.Φ, EntryOk Tryz.prog e := allE_nil
theorem ok (n : Nat) : FnOk Tryz.prog 15 ia io (fRun (X n) n T Tryz.f15 ia io) := tree_ok mixed tabIs (phi n) Tryz.func15 (by kernel_rfl) rfl
noncomputable def en (n : Nat) : Entry := mkEntry 15 ia io (fRun (X n) n T Tryz.f15 ia io)
end F_acts_anywhere
end Go.Proofs.YtfpedialdcgnhaaGreatDoor
namespace Go.Proofs.YtfpedialdcgnhaaGreatDoor
open Go Go.Va Go.Proofs
namespace F_acts_bare
abbrev ia : List Ai := [.dat T_api_Request]
abbrev io : List (Nat × Oi) := [(2, .dat .bool)]
abbrev R : Type := DOut ia io
noncomputable def X (n : Nat) : Ctx := ⟨⟨tab, [], 0, []⟩, 89, bnOf 0 ia⟩
noncomputable def T : CT := .o
noncomputable def f (n : Nat) (r : D_api_Request) : Option R := fRun (X n) n T Tryz.f18 ia io (r, ())
theorem e0 (n : Nat) (r : D_api_Request) : f n r =
  bIf ((hide (eqS r.2.2.2.1 (⟨#[]⟩ : ByteArray)))) (
    bIf ((hide (r.2.2.2.2.1 == (0 : Int)))) (
      bIf ((hide (((r.2.2.2.2.2.1.length : Nat) : Int) == (0 : Int)))) (
        bIf ((hide (((r.2.2.2.2.2.2.1.length : Nat) : Int) == (0 : Int)))) (
          bIf ((hide (eqD T_api_Lock r.2.2.2.2.2.2.2.1 (0, (0, (false, ())))))) (
            bIf ((!r.2.2.2.2.2.2.2.2.1)) (
              bIf ((hide (eqD T_api_Default r.2.2.2.2.2.2.2.2.2.1 (0, (0, ()))))) (
                bIf ((hide (((r.2.2.2.2.2.2.2.2.2.2.1.length : Nat) : Int) == (0 : Int)))) (
                  bIf ((hide (((r.2.2.2.2.2.2.2.2.2.2.2.1.length : Nat) : Int) == (0 : Int)))) (
                    bIf ((hide (r.2.2.2.2.2.2.2.2.2.2.2.2.1 == (0 : Int)))) (
                      bIf ((hide (((r.2.2.2.2.2.2.2.2.2.2.2.2.2.1.length : Nat) : Int) == (0 : Int)))) (
                        bIf ((hide (eqS r.2.2.2.2.2.2.2.2.2.2.2.2.2.2.1 (⟨#[]⟩ : ByteArray)))) (
                          bIf ((hide (eqS r.2.2.2.2.2.2.2.2.2.2.2.2.2.2.2.1 (⟨#[]⟩ : ByteArray)))) (
                            bIf ((hide (eqS r.2.2.2.2.2.2.2.2.2.2.2.2.2.2.2.2.1 (⟨#[]⟩ : ByteArray)))) (
                              bIf ((hide (eqD T_api_Spot r.2.2.2.2.2.2.2.2.2.2.2.2.2.2.2.2.2.1 ((⟨#[]⟩ : ByteArray), ((⟨#[]⟩ : ByteArray), (0, ())))))) (
                                some ((hide (r.2.2.2.2.2.2.2.2.2.2.2.2.2.2.2.2.2.2.1 == (0 : Int))), ())
                                ) (
                                some (false, ())
                                )
                              ) (
                              some (false, ())
                              )
                            ) (
                            some (false, ())
                            )
                          ) (
                          some (false, ())
                          )
                        ) (
                        some (false, ())
                        )
                      ) (
                      some (false, ())
                      )
                    ) (
                    some (false, ())
                    )
                  ) (
                  some (false, ())
                  )
                ) (
                some (false, ())
                )
              ) (
              some (false, ())
              )
            ) (
            some (false, ())
            )
          ) (
          some (false, ())
          )
        ) (
        some (false, ())
        )
      ) (
      some (false, ())
      )
    ) (
    some (false, ())
    ) := (hideF_eq _).trans (by kernel_rfl)
theorem phi (n : Nat) : ∀ e ∈ (X n).c.Φ, EntryOk Tryz.prog e := allE_nil
theorem ok (n : Nat) : FnOk Tryz.prog 18 ia io (fRun (X n) n T Tryz.f18 ia io) := tree_ok mixed tabIs (phi n) Tryz.func18 (by kernel_rfl) rfl
noncomputable def en (n : Nat) : Entry := mkEntry 18 ia io (fRun (X n) n T Tryz.f18 ia io)
end F_acts_bare
end Go.Proofs.YtfpedialdcgnhaaGreatDoor
namespace Go.Proofs.YtfpedialdcgnhaaGreatDoor
open Go Go.Va Go.Proofs
namespace F_acts_name
abbrev ia : List Ai := [.dat .str]
abbrev io : List (Nat × Oi) := [(2, .dat .bool)]
abbrev R : Type := DOut ia io
noncomputable def X (n : Nat) : Ctx := ⟨⟨tab, [F_label_Clean.en n], 0, []⟩, 10, bnOf 0 ia⟩
noncomputable def T : CT := .o
noncomputable def f (n : Nat) (s_ : ByteArray) : Option R := fRun (X n) n T Tryz.f56 ia io (s_, ())
theorem e0 (n : Nat) (s_ : ByteArray) : f n s_ =
  bIf ((hide (decide ((s_.size : Int) ≤ (200 : Int))))) (
    bnd (F_label_Clean.f n s_) fun u1 =>
    some (u1.1, ())
    ) (
    some (false, ())
    ) := (hideF_eq _).trans (by kernel_rfl)
theorem phi (n : Nat) : ∀ e ∈ (X n).c.Φ, EntryOk Tryz.prog e := allE_cons (mkEntry_ok (F_label_Clean.ok n)) (allE_nil)
theorem ok (n : Nat) : FnOk Tryz.prog 56 ia io (fRun (X n) n T Tryz.f56 ia io) := tree_ok mixed tabIs (phi n) Tryz.func56 (by kernel_rfl) rfl
noncomputable def en (n : Nat) : Entry := mkEntry 56 ia io (fRun (X n) n T Tryz.f56 ia io)
end F_acts_name
end Go.Proofs.YtfpedialdcgnhaaGreatDoor
namespace Go.Proofs.YtfpedialdcgnhaaGreatDoor
open Go Go.Va Go.Proofs
namespace F_acts_strip_may
abbrev ia : List Ai := [.ptr (.d T_acts_strip), .dat .bool]
abbrev io : List (Nat × Oi) := [(4, .arg 0 500000 (.d T_acts_strip))]
abbrev R : Type := DOut ia io
noncomputable def X (n : Nat) : Ctx := ⟨⟨tab, [], 0, []⟩, 16, bnOf 0 ia⟩
noncomputable def T : CT := .o
noncomputable def f (n : Nat) (s_ : D_acts_strip) (ok_ : Bool) : Option R := fRun (X n) n T Tryz.f45 ia io (s_, ok_, ())
theorem e0 (n : Nat) (s_ : D_acts_strip) (ok_ : Bool) : f n s_ ok_ =
  bIf (s_.2.1) (
    some ((s_.1, (ok_, s_.2.2)), ())
    ) (
    some ((s_.1, (false, s_.2.2)), ())
    ) := (hideF_eq _).trans (by kernel_rfl)
theorem phi (n : Nat) : ∀ e ∈ (X n).c.Φ, EntryOk Tryz.prog e := allE_nil
theorem ok (n : Nat) : FnOk Tryz.prog 45 ia io (fRun (X n) n T Tryz.f45 ia io) := tree_ok mixed tabIs (phi n) Tryz.func45 (by kernel_rfl) rfl
noncomputable def en (n : Nat) : Entry := mkEntry 45 ia io (fRun (X n) n T Tryz.f45 ia io)
end F_acts_strip_may
end Go.Proofs.YtfpedialdcgnhaaGreatDoor
namespace Go.Proofs.YtfpedialdcgnhaaGreatDoor
open Go Go.Va Go.Proofs
namespace F_acts_strip_body
abbrev ia : List Ai := [.ptr (.d T_acts_strip)]
abbrev io : List (Nat × Oi) := [(2, .arg 0 500000 (.d T_acts_strip))]
abbrev R : Type := DOut ia io
noncomputable def X (n : Nat) : Ctx := ⟨⟨tab, [F_acts_strip_may.en n], 0, []⟩, 16, bnOf 0 ia⟩
noncomputable def T : CT := .o
noncomputable def f (n : Nat) (s_ : D_acts_strip) : Option R := fRun (X n) n T Tryz.f50 ia io (s_, ())
theorem e0 (n : Nat) (s_ : D_acts_strip) : f n s_ =
  bnd (F_acts_strip_may.f n s_ (hide (decide (((s_.1.2.2.2.2.2.1.length : Nat) : Int) ≤ (1024 : Int))))) fun u1 =>
  some (((u1.1.1.1, (u1.1.1.2.1, (u1.1.1.2.2.1, (u1.1.1.2.2.2.1, (u1.1.1.2.2.2.2.1, ([], u1.1.1.2.2.2.2.2.2)))))), u1.1.2), ()) := (hideF_eq _).trans (by kernel_rfl)
theorem phi (n : Nat) : ∀ e ∈ (X n).c.Φ, EntryOk Tryz.prog e := allE_cons (mkEntry_ok (F_acts_strip_may.ok n)) (allE_nil)
theorem ok (n : Nat) : FnOk Tryz.prog 50 ia io (fRun (X n) n T Tryz.f50 ia io) := tree_ok mixed tabIs (phi n) Tryz.func50 (by kernel_rfl) rfl
noncomputable def en (n : Nat) : Entry := mkEntry 50 ia io (fRun (X n) n T Tryz.f50 ia io)
end F_acts_strip_body
end Go.Proofs.YtfpedialdcgnhaaGreatDoor
namespace Go.Proofs.YtfpedialdcgnhaaGreatDoor
open Go Go.Va Go.Proofs
namespace F_acts_strip_bypass
abbrev ia : List Ai := [.ptr (.d T_acts_strip)]
abbrev io : List (Nat × Oi) := [(2, .arg 0 500000 (.d T_acts_strip))]
abbrev R : Type := DOut ia io
noncomputable def X (n : Nat) : Ctx := ⟨⟨tab, [], 0, []⟩, 8, bnOf 0 ia⟩
noncomputable def T : CT := .o
noncomputable def f (n : Nat) (s_ : D_acts_strip) : Option R := fRun (X n) n T Tryz.f54 ia io (s_, ())
theorem e0 (n : Nat) (s_ : D_acts_strip) : f n s_ =
  some (((s_.1.1, (s_.1.2.1, (s_.1.2.2.1, (s_.1.2.2.2.1, (s_.1.2.2.2.2.1, (s_.1.2.2.2.2.2.1, (s_.1.2.2.2.2.2.2.1, (s_.1.2.2.2.2.2.2.2.1, (false, s_.1.2.2.2.2.2.2.2.2.2))))))))), s_.2), ()) := (hideF_eq _).trans (by kernel_rfl)
theorem phi (n : Nat) : ∀ e ∈ (X n).c.Φ, EntryOk Tryz.prog e := allE_nil
theorem ok (n : Nat) : FnOk Tryz.prog 54 ia io (fRun (X n) n T Tryz.f54 ia io) := tree_ok mixed tabIs (phi n) Tryz.func54 (by kernel_rfl) rfl
noncomputable def en (n : Nat) : Entry := mkEntry 54 ia io (fRun (X n) n T Tryz.f54 ia io)
end F_acts_strip_bypass
end Go.Proofs.YtfpedialdcgnhaaGreatDoor
namespace Go.Proofs.YtfpedialdcgnhaaGreatDoor
open Go Go.Va Go.Proofs
namespace F_acts_strip_from
abbrev ia : List Ai := [.ptr (.d T_acts_strip), .dat .bool]
abbrev io : List (Nat × Oi) := [(4, .arg 0 500000 (.d T_acts_strip))]
abbrev R : Type := DOut ia io
noncomputable def X (n : Nat) : Ctx := ⟨⟨tab, [F_acts_strip_may.en n], 0, []⟩, 13, bnOf 0 ia⟩
noncomputable def T : CT := .o
noncomputable def f (n : Nat) (s_ : D_acts_strip) (ok_ : Bool) : Option R := fRun (X n) n T Tryz.f57 ia io (s_, ok_, ())
theorem e0 (n : Nat) (s_ : D_acts_strip) (ok_ : Bool) : f n s_ ok_ =
  bnd (F_acts_strip_may.f n s_ ok_) fun u1 =>
  some (((u1.1.1.1, (u1.1.1.2.1, (u1.1.1.2.2.1, (u1.1.1.2.2.2.1, (u1.1.1.2.2.2.2.1, (u1.1.1.2.2.2.2.2.1, (u1.1.1.2.2.2.2.2.2.1, (u1.1.1.2.2.2.2.2.2.2.1, (u1.1.1.2.2.2.2.2.2.2.2.1, (u1.1.1.2.2.2.2.2.2.2.2.2.1, (u1.1.1.2.2.2.2.2.2.2.2.2.2.1, (u1.1.1.2.2.2.2.2.2.2.2.2.2.2.1, (u1.1.1.2.2.2.2.2.2.2.2.2.2.2.2.1, (u1.1.1.2.2.2.2.2.2.2.2.2.2.2.2.2.1, (u1.1.1.2.2.2.2.2.2.2.2.2.2.2.2.2.2.1, (u1.1.1.2.2.2.2.2.2.2.2.2.2.2.2.2.2.2.1, (u1.1.1.2.2.2.2.2.2.2.2.2.2.2.2.2.2.2.2.1, (((⟨#[]⟩ : ByteArray), ((⟨#[]⟩ : ByteArray), (0, ()))), u1.1.1.2.2.2.2.2.2.2.2.2.2.2.2.2.2.2.2.2.2)))))))))))))))))), u1.1.2), ()) := (hideF_eq _).trans (by kernel_rfl)
theorem phi (n : Nat) : ∀ e ∈ (X n).c.Φ, EntryOk Tryz.prog e := allE_cons (mkEntry_ok (F_acts_strip_may.ok n)) (allE_nil)
theorem ok (n : Nat) : FnOk Tryz.prog 57 ia io (fRun (X n) n T Tryz.f57 ia io) := tree_ok mixed tabIs (phi n) Tryz.func57 (by kernel_rfl) rfl
noncomputable def en (n : Nat) : Entry := mkEntry 57 ia io (fRun (X n) n T Tryz.f57 ia io)
end F_acts_strip_from
end Go.Proofs.YtfpedialdcgnhaaGreatDoor
namespace Go.Proofs.YtfpedialdcgnhaaGreatDoor
open Go Go.Va Go.Proofs
namespace F_acts_strip_id
abbrev ia : List Ai := [.ptr (.d T_acts_strip), .dat (.int .u64)]
abbrev io : List (Nat × Oi) := [(4, .arg 0 500000 (.d T_acts_strip))]
abbrev R : Type := DOut ia io
noncomputable def X (n : Nat) : Ctx := ⟨⟨tab, [F_acts_strip_may.en n], 0, []⟩, 18, bnOf 0 ia⟩
noncomputable def T : CT := .o
noncomputable def f (n : Nat) (s_ : D_acts_strip) (least : Int) : Option R := fRun (X n) n T Tryz.f53 ia io (s_, least, ())
theorem e0 (n : Nat) (s_ : D_acts_strip) (least : Int) : f n s_ least =
  bnd (F_acts_strip_may.f n s_ (hide (decide (s_.1.2.2.2.2.1 ≥ least)))) fun u1 =>
  some (((u1.1.1.1, (u1.1.1.2.1, (u1.1.1.2.2.1, (u1.1.1.2.2.2.1, (0, u1.1.1.2.2.2.2.2))))), u1.1.2), ()) := (hideF_eq _).trans (by kernel_rfl)
theorem phi (n : Nat) : ∀ e ∈ (X n).c.Φ, EntryOk Tryz.prog e := allE_cons (mkEntry_ok (F_acts_strip_may.ok n)) (allE_nil)
theorem ok (n : Nat) : FnOk Tryz.prog 53 ia io (fRun (X n) n T Tryz.f53 ia io) := tree_ok mixed tabIs (phi n) Tryz.func53 (by kernel_rfl) rfl
noncomputable def en (n : Nat) : Entry := mkEntry 53 ia io (fRun (X n) n T Tryz.f53 ia io)
end F_acts_strip_id
end Go.Proofs.YtfpedialdcgnhaaGreatDoor
namespace Go.Proofs.YtfpedialdcgnhaaGreatDoor
open Go Go.Va Go.Proofs
namespace F_acts_strip_key
abbrev ia : List Ai := [.ptr (.d T_acts_strip)]
abbrev io : List (Nat × Oi) := [(2, .arg 0 500000 (.d T_acts_strip))]
abbrev R : Type := DOut ia io
noncomputable def X (n : Nat) : Ctx := ⟨⟨tab, [F_acts_strip_may.en n, F_label_Key.en n], 0, []⟩, 15, bnOf 0 ia⟩
noncomputable def T : CT := .o
noncomputable def f (n : Nat) (s_ : D_acts_strip) : Option R := fRun (X n) n T Tryz.f49 ia io (s_, ())
theorem e0 (n : Nat) (s_ : D_acts_strip) : f n s_ =
  bnd (F_label_Key.f n s_.1.2.2.2.1) fun u1 =>
  bnd (F_acts_strip_may.f n s_ u1.1) fun u2 =>
  some (((u2.1.1.1, (u2.1.1.2.1, (u2.1.1.2.2.1, ((⟨#[]⟩ : ByteArray), u2.1.1.2.2.2.2)))), u2.1.2), ()) := (hideF_eq _).trans (by kernel_rfl)
theorem phi (n : Nat) : ∀ e ∈ (X n).c.Φ, EntryOk Tryz.prog e := allE_cons (mkEntry_ok (F_acts_strip_may.ok n)) (allE_cons (mkEntry_ok (F_label_Key.ok n)) (allE_nil))
theorem ok (n : Nat) : FnOk Tryz.prog 49 ia io (fRun (X n) n T Tryz.f49 ia io) := tree_ok mixed tabIs (phi n) Tryz.func49 (by kernel_rfl) rfl
noncomputable def en (n : Nat) : Entry := mkEntry 49 ia io (fRun (X n) n T Tryz.f49 ia io)
end F_acts_strip_key
end Go.Proofs.YtfpedialdcgnhaaGreatDoor
namespace Go.Proofs.YtfpedialdcgnhaaGreatDoor
open Go Go.Va Go.Proofs
namespace F_acts_strip_lock
abbrev ia : List Ai := [.ptr (.d T_acts_strip), .dat .bool]
abbrev io : List (Nat × Oi) := [(4, .arg 0 500000 (.d T_acts_strip))]
abbrev R : Type := DOut ia io
noncomputable def X (n : Nat) : Ctx := ⟨⟨tab, [F_acts_strip_may.en n, F_mode_Sound.en n], 0, []⟩, 21, bnOf 0 ia⟩
noncomputable def T : CT := .o
noncomputable def f (n : Nat) (s_ : D_acts_strip) (ok_ : Bool) : Option R := fRun (X n) n T Tryz.f52 ia io (s_, ok_, ())
theorem e0 (n : Nat) (s_ : D_acts_strip) (ok_ : Bool) : f n s_ ok_ =
  bnd (F_mode_Sound.f n s_.1.2.2.2.2.2.2.2.1) fun u1 =>
  bIf (u1.1) (
    bnd (F_acts_strip_may.f n s_ ok_) fun u2 =>
    some (((u2.1.1.1, (u2.1.1.2.1, (u2.1.1.2.2.1, (u2.1.1.2.2.2.1, (u2.1.1.2.2.2.2.1, (u2.1.1.2.2.2.2.2.1, (u2.1.1.2.2.2.2.2.2.1, ((0, (0, (false, ()))), u2.1.1.2.2.2.2.2.2.2.2)))))))), u2.1.2), ())
    ) (
    bnd (F_acts_strip_may.f n s_ false) fun u3 =>
    some (((u3.1.1.1, (u3.1.1.2.1, (u3.1.1.2.2.1, (u3.1.1.2.2.2.1, (u3.1.1.2.2.2.2.1, (u3.1.1.2.2.2.2.2.1, (u3.1.1.2.2.2.2.2.2.1, ((0, (0, (false, ()))), u3.1.1.2.2.2.2.2.2.2.2)))))))), u3.1.2), ())
    ) := (hideF_eq _).trans (by kernel_rfl)
theorem phi (n : Nat) : ∀ e ∈ (X n).c.Φ, EntryOk Tryz.prog e := allE_cons (mkEntry_ok (F_acts_strip_may.ok n)) (allE_cons (mkEntry_ok (F_mode_Sound.ok n)) (allE_nil))
theorem ok (n : Nat) : FnOk Tryz.prog 52 ia io (fRun (X n) n T Tryz.f52 ia io) := tree_ok mixed tabIs (phi n) Tryz.func52 (by kernel_rfl) rfl
noncomputable def en (n : Nat) : Entry := mkEntry 52 ia io (fRun (X n) n T Tryz.f52 ia io)
end F_acts_strip_lock
end Go.Proofs.YtfpedialdcgnhaaGreatDoor
namespace Go.Proofs.YtfpedialdcgnhaaGreatDoor
open Go Go.Va Go.Proofs
namespace F_acts_strip_page
abbrev ia : List Ai := [.ptr (.d T_acts_strip)]
abbrev io : List (Nat × Oi) := [(2, .arg 0 500000 (.d T_acts_strip))]
abbrev R : Type := DOut ia io
noncomputable def X (n : Nat) : Ctx := ⟨⟨tab, [F_acts_strip_may.en n, F_acts_name.en n], 0, []⟩, 36, bnOf 0 ia⟩
abbrev g1 : List Si := [.ref 0 500000 T_acts_strip, .box 500000 (.d T_acts_strip)]
noncomputable def T : CT := (.s .o (.s .o (.r g1 .o)))
noncomputable def J1 (n : Nat) : D_acts_strip × Unit → Option R := jR (X n) n T (bodyOf Tryz.f55) (endK ia io) g1 [1, 1] []
noncomputable def f (n : Nat) (s_ : D_acts_strip) : Option R := fRun (X n) n T Tryz.f55 ia io (s_, ())
theorem e0 (n : Nat) (s_ : D_acts_strip) : f n s_ =
  bnd (F_acts_name.f n s_.1.2.2.2.2.2.2.2.2.2.2.2.2.2.2.2.1) fun u1 =>
  bIf (u1.1) (
    bIf ((hide (decide (s_.1.2.2.2.2.2.2.2.2.2.2.2.2.2.2.2.2.2.2.1 ≥ (1 : Int))))) (
      bnd (F_acts_strip_may.f n s_ (hide (decide (s_.1.2.2.2.2.2.2.2.2.2.2.2.2.2.2.2.2.2.2.1 ≤ (100 : Int))))) fun u2 =>
      J1 n (u2.1, ())
      ) (
      bnd (F_acts_strip_may.f n s_ false) fun u3 =>
      J1 n (u3.1, ())
      )
    ) (
    bnd (F_acts_strip_may.f n s_ false) fun u4 =>
    J1 n (u4.1, ())
    ) := (hideF_eq _).trans (by kernel_rfl)
theorem e1 (n : Nat) (s_ : D_acts_strip) : J1 n (s_, ()) =
  some (((s_.1.1, (s_.1.2.1, (s_.1.2.2.1, (s_.1.2.2.2.1, (s_.1.2.2.2.2.1, (s_.1.2.2.2.2.2.1, (s_.1.2.2.2.2.2.2.1, (s_.1.2.2.2.2.2.2.2.1, (s_.1.2.2.2.2.2.2.2.2.1, (s_.1.2.2.2.2.2.2.2.2.2.1, (s_.1.2.2.2.2.2.2.2.2.2.2.1, (s_.1.2.2.2.2.2.2.2.2.2.2.2.1, (s_.1.2.2.2.2.2.2.2.2.2.2.2.2.1, (s_.1.2.2.2.2.2.2.2.2.2.2.2.2.2.1, (s_.1.2.2.2.2.2.2.2.2.2.2.2.2.2.2.1, ((⟨#[]⟩ : ByteArray), (s_.1.2.2.2.2.2.2.2.2.2.2.2.2.2.2.2.2.1, (s_.1.2.2.2.2.2.2.2.2.2.2.2.2.2.2.2.2.2.1, (0, s_.1.2.2.2.2.2.2.2.2.2.2.2.2.2.2.2.2.2.2.2))))))))))))))))))), s_.2), ()) := (hideF_eq _).trans (by kernel_rfl)
theorem phi (n : Nat) : ∀ e ∈ (X n).c.Φ, EntryOk Tryz.prog e := allE_cons (mkEntry_ok (F_acts_strip_may.ok n)) (allE_cons (mkEntry_ok (F_acts_name.ok n)) (allE_nil))
theorem ok (n : Nat) : FnOk Tryz.prog 55 ia io (fRun (X n) n T Tryz.f55 ia io) := tree_ok mixed tabIs (phi n) Tryz.func55 (by kernel_rfl) rfl
noncomputable def en (n : Nat) : Entry := mkEntry 55 ia io (fRun (X n) n T Tryz.f55 ia io)
end F_acts_strip_page
end Go.Proofs.YtfpedialdcgnhaaGreatDoor
namespace Go.Proofs.YtfpedialdcgnhaaGreatDoor
open Go Go.Va Go.Proofs
namespace F_acts_strip_tags
abbrev ia : List Ai := [.ptr (.d T_acts_strip)]
abbrev io : List (Nat × Oi) := [(2, .arg 0 500000 (.d T_acts_strip))]
abbrev R : Type := DOut ia io
noncomputable def X (n : Nat) : Ctx := ⟨⟨tab, [F_acts_strip_may.en n, F_tags_Sound.en n], 0, []⟩, 15, bnOf 0 ia⟩
noncomputable def T : CT := .o
noncomputable def f (n : Nat) (s_ : D_acts_strip) : Option R := fRun (X n) n T Tryz.f51 ia io (s_, ())
theorem e0 (n : Nat) (s_ : D_acts_strip) : f n s_ =
  bnd (F_tags_Sound.f n s_.1.2.2.2.2.2.2.1) fun u1 =>
  bnd (F_acts_strip_may.f n s_ u1.1) fun u2 =>
  some (((u2.1.1.1, (u2.1.1.2.1, (u2.1.1.2.2.1, (u2.1.1.2.2.2.1, (u2.1.1.2.2.2.2.1, (u2.1.1.2.2.2.2.2.1, ([], u2.1.1.2.2.2.2.2.2.2))))))), u2.1.2), ()) := (hideF_eq _).trans (by kernel_rfl)
theorem phi (n : Nat) : ∀ e ∈ (X n).c.Φ, EntryOk Tryz.prog e := allE_cons (mkEntry_ok (F_acts_strip_may.ok n)) (allE_cons (mkEntry_ok (F_tags_Sound.ok n)) (allE_nil))
theorem ok (n : Nat) : FnOk Tryz.prog 51 ia io (fRun (X n) n T Tryz.f51 ia io) := tree_ok mixed tabIs (phi n) Tryz.func51 (by kernel_rfl) rfl
noncomputable def en (n : Nat) : Entry := mkEntry 51 ia io (fRun (X n) n T Tryz.f51 ia io)
end F_acts_strip_tags
end Go.Proofs.YtfpedialdcgnhaaGreatDoor
namespace Go.Proofs.YtfpedialdcgnhaaGreatDoor
open Go Go.Va Go.Proofs
namespace F_acts_strip_own
abbrev ia : List Ai := [.ptr (.d T_acts_strip)]
abbrev io : List (Nat × Oi) := []
abbrev R : Type := DOut ia io
noncomputable def X (n : Nat) : Ctx := ⟨⟨tab, [F_label_Bucket.en n, F_acts_strip_may.en n, F_mode_Good.en n, F_entry_Rules.en n, F_entry_Grants.en n, F_acts_strip_key.en n, F_acts_strip_body.en n, F_acts_strip_tags.en n, F_acts_strip_lock.en n, F_acts_strip_id.en n, F_acts_strip_bypass.en n, F_acts_strip_page.en n, F_acts_name.en n, F_acts_strip_from.en n, F_label_Key.en n], 0, []⟩, 192, bnOf 0 ia⟩
abbrev g1 : List Si := [.ref 0 500000 T_acts_strip, .ref 2 2 T_api_Request, .dat 8 (.int .i64), .dat 11 .bool, .box 2 (.d T_api_Request), .box 500000 (.d T_acts_strip)]
abbrev g2 : List Si := [.ref 0 500000 T_acts_strip, .ref 2 2 T_api_Request, .dat 8 (.int .i64), .dat 23 .bool, .box 2 (.d T_api_Request), .box 500000 (.d T_acts_strip)]
abbrev g3 : List Si := [.ref 0 500000 T_acts_strip, .ref 2 2 T_api_Request, .dat 8 (.int .i64), .dat 54 .bool, .box 2 (.d T_api_Request), .box 500000 (.d T_acts_strip)]
abbrev g4 : List Si := [.ref 0 500000 T_acts_strip, .box 500000 (.d T_acts_strip)]
noncomputable def T : CT := (.s .o (.s .o (.b (.s .o (.r g1 (.c .o (.s .o (.r g2 (.c .o (.s .o (.c .o (.s .o (.c .o (.s .o (.c .o (.s .o (.r g3 (.c .o (.s .o (.c .o (.s .o (.c .o (.s .o (.c .o (.s .o (.c .o (.s .o (.c .o (.s .o (.c (.s .o (.r g4 .o)) .o))))))))))))))))))))))))))))))
noncomputable def J1 (n : Nat) : Int × Bool × D_api_Request × D_acts_strip × Unit → Option R := jR (X n) n T (bodyOf Tryz.f17) (endK ia io) g1 [1, 1, 0, 1] []
noncomputable def J2 (n : Nat) : Int × Bool × D_api_Request × D_acts_strip × Unit → Option R := jR (X n) n T (bodyOf Tryz.f17) (endK ia io) g2 [1, 1, 0, 1, 1, 1] []
noncomputable def J3 (n : Nat) : Int × Bool × D_api_Request × D_acts_strip × Unit → Option R := jR (X n) n T (bodyOf Tryz.f17) (endK ia io) g3 [1, 1, 0, 1, 1, 1, 1, 1, 1, 1, 1, 1, 1, 1] []
noncomputable def J4 (n : Nat) : D_acts_strip × Unit → Option R := jR (X n) n T (bodyOf Tryz.f17) (endK ia io) g4 [1, 1, 0, 1, 1, 1, 1, 1, 1, 1, 1, 1, 1, 1, 1, 1, 1, 1, 1, 1, 1, 1, 1, 1, 1, 1, 0, 1] []
noncomputable def f (n : Nat) (t : D_acts_strip) : Option R := fRun (X n) n T Tryz.f17 ia io (t, ())
theorem e0 (n : Nat) (t : D_acts_strip) : f n t =
  bIf ((hide (t.1.1 == (1 : Int)))) (
    J1 n (t.1.1, true, t.1, t, ())
    ) (
    J1 n (t.1.1, (hide (t.1.1 == (3 : Int))), t.1, t, ())
    ) := (hideF_eq _).trans (by kernel_rfl)
theorem e1 (n : Nat) (t8 : Int) (t11 : Bool) (A : D_api_Request) (t : D_acts_strip) : J1 n (t8, t11, A, t, ()) =
  bIf (t11) (
    bnd (F_mode_Good.f n A.2.2.2.2.2.2.2.2.2.1) fun u1 =>
    bnd (F_acts_strip_may.f n t u1.1) fun u2 =>
    some (((u2.1.1.1, (u2.1.1.2.1, (u2.1.1.2.2.1, (u2.1.1.2.2.2.1, (u2.1.1.2.2.2.2.1, (u2.1.1.2.2.2.2.2.1, (u2.1.1.2.2.2.2.2.2.1, (u2.1.1.2.2.2.2.2.2.2.1, (u2.1.1.2.2.2.2.2.2.2.2.1, ((0, (0, ())), u2.1.1.2.2.2.2.2.2.2.2.2.2)))))))))), u2.1.2), ())
    ) (
    bIf ((hide (t8 == (2 : Int)))) (
      J2 n (t8, true, A, t, ())
      ) (
      bIf ((hide (t8 == (21 : Int)))) (
        J2 n (t8, true, A, t, ())
        ) (
        J2 n (t8, (hide (t8 == (22 : Int))), A, t, ())
        )
      )
    ) := (hideF_eq _).trans (by kernel_rfl)
theorem e2 (n : Nat) (t8 : Int) (t23 : Bool) (A : D_api_Request) (t : D_acts_strip) : J2 n (t8, t23, A, t, ()) =
  bIf (t23) (
    some (t, ())
    ) (
    bIf ((hide (t8 == (4 : Int)))) (
      bnd (F_entry_Rules.f n A.2.2.2.2.2.2.2.2.2.2.1) fun u1 =>
      bnd (F_acts_strip_may.f n t u1.1) fun u2 =>
      some (((u2.1.1.1, (u2.1.1.2.1, (u2.1.1.2.2.1, (u2.1.1.2.2.2.1, (u2.1.1.2.2.2.2.1, (u2.1.1.2.2.2.2.2.1, (u2.1.1.2.2.2.2.2.2.1, (u2.1.1.2.2.2.2.2.2.2.1, (u2.1.1.2.2.2.2.2.2.2.2.1, (u2.1.1.2.2.2.2.2.2.2.2.2.1, ([], u2.1.1.2.2.2.2.2.2.2.2.2.2.2))))))))))), u2.1.2), ())
      ) (
      bIf ((hide (t8 == (5 : Int)))) (
        bnd (F_entry_Grants.f n A.2.2.2.2.2.2.2.2.2.2.2.1) fun u3 =>
        bnd (F_acts_strip_may.f n t u3.1) fun u4 =>
        some (((u4.1.1.1, (u4.1.1.2.1, (u4.1.1.2.2.1, (u4.1.1.2.2.2.1, (u4.1.1.2.2.2.2.1, (u4.1.1.2.2.2.2.2.1, (u4.1.1.2.2.2.2.2.2.1, (u4.1.1.2.2.2.2.2.2.2.1, (u4.1.1.2.2.2.2.2.2.2.2.1, (u4.1.1.2.2.2.2.2.2.2.2.2.1, (u4.1.1.2.2.2.2.2.2.2.2.2.2.1, ([], u4.1.1.2.2.2.2.2.2.2.2.2.2.2.2)))))))))))), u4.1.2), ())
        ) (
        bIf ((hide (t8 == (6 : Int)))) (
          bnd (F_acts_strip_key.f n t) fun u5 =>
          bnd (F_acts_strip_body.f n u5.1) fun u6 =>
          bnd (F_acts_strip_tags.f n u6.1) fun u7 =>
          bnd (F_acts_strip_lock.f n u7.1 true) fun u8 =>
          some (u8.1, ())
          ) (
          bIf ((hide (t8 == (7 : Int)))) (
            J3 n (t8, true, A, t, ())
            ) (
            J3 n (t8, (hide (t8 == (8 : Int))), A, t, ())
            )
          )
        )
      )
    ) := (hideF_eq _).trans (by kernel_rfl)
theorem e3 (n : Nat) (t8 : Int) (t54 : Bool) (A : D_api_Request) (t : D_acts_strip) : J3 n (t8, t54, A, t, ()) =
  bIf (t54) (
    bnd (F_acts_strip_key.f n t) fun u1 =>
    bnd (F_acts_strip_id.f n u1.1 0) fun u2 =>
    some (u2.1, ())
    ) (
    bIf ((hide (t8 == (9 : Int)))) (
      bnd (F_acts_strip_key.f n t) fun u3 =>
      some (u3.1, ())
      ) (
      bIf ((hide (t8 == (10 : Int)))) (
        bnd (F_acts_strip_key.f n t) fun u4 =>
        bnd (F_acts_strip_id.f n u4.1 1) fun u5 =>
        bnd (F_acts_strip_bypass.f n u5.1) fun u6 =>
        some (u6.1, ())
        ) (
        bIf ((hide (t8 == (11 : Int)))) (
          bnd (F_acts_strip_key.f n t) fun u7 =>
          bnd (F_acts_strip_id.f n u7.1 0) fun u8 =>
          bnd (F_acts_strip_lock.f n u8.1 (!A.2.2.2.2.2.2.2.1.2.2.1)) fun u9 =>
          bnd (F_acts_strip_bypass.f n u9.1) fun u10 =>
          some (u10.1, ())
          ) (
          bIf ((hide (t8 == (12 : Int)))) (
            bnd (F_acts_strip_key.f n t) fun u11 =>
            bnd (F_acts_strip_id.f n u11.1 0) fun u12 =>
            bnd (F_acts_strip_lock.f n u12.1 (hide (A.2.2.2.2.2.2.2.1.1 == (0 : Int)))) fun u13 =>
            some (u13.1, ())
            ) (
            bIf ((hide (t8 == (13 : Int)))) (
              bnd (F_acts_strip_key.f n t) fun u14 =>
              bnd (F_acts_strip_id.f n u14.1 0) fun u15 =>
              bnd (F_acts_strip_tags.f n u15.1) fun u16 =>
              some (u16.1, ())
              ) (
              bIf ((hide (t8 == (14 : Int)))) (
                bnd (F_acts_strip_page.f n t) fun u17 =>
                bnd (F_acts_name.f n A.2.2.2.2.2.2.2.2.2.2.2.2.2.2.2.2.1) fun u18 =>
                bIf (u18.1) (
                  bnd (F_acts_name.f n A.2.2.2.2.2.2.2.2.2.2.2.2.2.2.1) fun u19 =>
                  bnd (F_acts_strip_may.f n u17.1 u19.1) fun u20 =>
                  J4 n (u20.1, ())
                  ) (
                  bnd (F_acts_strip_may.f n u17.1 false) fun u21 =>
                  J4 n (u21.1, ())
                  )
                ) (
                bIf ((hide (t8 == (15 : Int)))) (
                  bnd (F_acts_strip_page.f n t) fun u22 =>
                  bIf ((hide (eqS A.2.2.2.2.2.2.2.2.2.2.2.2.2.2.2.2.2.1.1 (⟨#[]⟩ : ByteArray)))) (
                    bnd (F_acts_name.f n A.2.2.2.2.2.2.2.2.2.2.2.2.2.2.2.2.2.1.2.1) fun u23 =>
                    bnd (F_acts_strip_from.f n u22.1 u23.1) fun u24 =>
                    some (u24.1, ())
                    ) (
                    bnd (F_acts_strip_from.f n u22.1 false) fun u25 =>
                    some (u25.1, ())
                    )
                  ) (
                  bIf ((hide (t8 == (16 : Int)))) (
                    bnd (F_acts_strip_key.f n t) fun u26 =>
                    bnd (F_acts_strip_tags.f n u26.1) fun u27 =>
                    some (u27.1, ())
                    ) (
                    bIf ((hide (t8 == (17 : Int)))) (
                      bnd (F_acts_strip_id.f n t 1) fun u28 =>
                      bnd (F_acts_strip_body.f n u28.1) fun u29 =>
                      bIf ((hide (decide (A.2.2.2.2.2.2.2.2.2.2.2.2.1 ≥ (1 : Int))))) (
                        bnd (F_acts_strip_may.f n u29.1 (hide (decide (A.2.2.2.2.2.2.2.2.2.2.2.2.1 ≤ (10000 : Int))))) fun u30 =>
                        some (((u30.1.1.1, (u30.1.1.2.1, (u30.1.1.2.2.1, (u30.1.1.2.2.2.1, (u30.1.1.2.2.2.2.1, (u30.1.1.2.2.2.2.2.1, (u30.1.1.2.2.2.2.2.2.1, (u30.1.1.2.2.2.2.2.2.2.1, (u30.1.1.2.2.2.2.2.2.2.2.1, (u30.1.1.2.2.2.2.2.2.2.2.2.1, (u30.1.1.2.2.2.2.2.2.2.2.2.2.1, (u30.1.1.2.2.2.2.2.2.2.2.2.2.2.1, (0, u30.1.1.2.2.2.2.2.2.2.2.2.2.2.2.2))))))))))))), u30.1.2), ())
                        ) (
                        bnd (F_acts_strip_may.f n u29.1 false) fun u31 =>
                        some (((u31.1.1.1, (u31.1.1.2.1, (u31.1.1.2.2.1, (u31.1.1.2.2.2.1, (u31.1.1.2.2.2.2.1, (u31.1.1.2.2.2.2.2.1, (u31.1.1.2.2.2.2.2.2.1, (u31.1.1.2.2.2.2.2.2.2.1, (u31.1.1.2.2.2.2.2.2.2.2.1, (u31.1.1.2.2.2.2.2.2.2.2.2.1, (u31.1.1.2.2.2.2.2.2.2.2.2.2.1, (u31.1.1.2.2.2.2.2.2.2.2.2.2.2.1, (0, u31.1.1.2.2.2.2.2.2.2.2.2.2.2.2.2))))))))))))), u31.1.2), ())
                        )
                      ) (
                      bIf ((hide (t8 == (18 : Int)))) (
                        bnd (F_acts_strip_id.f n t 1) fun u32 =>
                        bnd (F_acts_strip_may.f n u32.1 (hide (decide (((A.2.2.2.2.2.2.2.2.2.2.2.2.2.1.length : Nat) : Int) ≤ (16 : Int))))) fun u33 =>
                        some (((u33.1.1.1, (u33.1.1.2.1, (u33.1.1.2.2.1, (u33.1.1.2.2.2.1, (u33.1.1.2.2.2.2.1, (u33.1.1.2.2.2.2.2.1, (u33.1.1.2.2.2.2.2.2.1, (u33.1.1.2.2.2.2.2.2.2.1, (u33.1.1.2.2.2.2.2.2.2.2.1, (u33.1.1.2.2.2.2.2.2.2.2.2.1, (u33.1.1.2.2.2.2.2.2.2.2.2.2.1, (u33.1.1.2.2.2.2.2.2.2.2.2.2.2.1, (u33.1.1.2.2.2.2.2.2.2.2.2.2.2.2.1, ([], u33.1.1.2.2.2.2.2.2.2.2.2.2.2.2.2.2)))))))))))))), u33.1.2), ())
                        ) (
                        bIf ((hide (t8 == (19 : Int)))) (
                          bnd (F_acts_strip_id.f n t 1) fun u34 =>
                          some (u34.1, ())
                          ) (
                          bIf ((hide (t8 == (20 : Int)))) (
                            bnd (F_acts_strip_key.f n t) fun u35 =>
                            bnd (F_label_Bucket.f n A.2.2.2.2.2.2.2.2.2.2.2.2.2.2.2.2.2.1.1) fun u36 =>
                            bIf (u36.1) (
                              bnd (F_label_Key.f n A.2.2.2.2.2.2.2.2.2.2.2.2.2.2.2.2.2.1.2.1) fun u37 =>
                              bIf (u37.1) (
                                bnd (F_acts_strip_from.f n u35.1 (hide (decide (A.2.2.2.2.2.2.2.2.2.2.2.2.2.2.2.2.2.1.2.2.1 ≥ (1 : Int))))) fun u38 =>
                                some (u38.1, ())
                                ) (
                                bnd (F_acts_strip_from.f n u35.1 false) fun u39 =>
                                some (u39.1, ())
                                )
                              ) (
                              bnd (F_acts_strip_from.f n u35.1 false) fun u40 =>
                              some (u40.1, ())
                              )
                            ) (
                            bnd (F_acts_strip_may.f n t false) fun u41 =>
                            some (u41.1, ())
                            )
                          )
                        )
                      )
                    )
                  )
                )
              )
            )
          )
        )
      )
    ) := (hideF_eq _).trans (by kernel_rfl)
theorem e4 (n : Nat) (t : D_acts_strip) : J4 n (t, ()) =
  some (((t.1.1, (t.1.2.1, (t.1.2.2.1, (t.1.2.2.2.1, (t.1.2.2.2.2.1, (t.1.2.2.2.2.2.1, (t.1.2.2.2.2.2.2.1, (t.1.2.2.2.2.2.2.2.1, (t.1.2.2.2.2.2.2.2.2.1, (t.1.2.2.2.2.2.2.2.2.2.1, (t.1.2.2.2.2.2.2.2.2.2.2.1, (t.1.2.2.2.2.2.2.2.2.2.2.2.1, (t.1.2.2.2.2.2.2.2.2.2.2.2.2.1, (t.1.2.2.2.2.2.2.2.2.2.2.2.2.2.1, ((⟨#[]⟩ : ByteArray), (t.1.2.2.2.2.2.2.2.2.2.2.2.2.2.2.2.1, ((⟨#[]⟩ : ByteArray), t.1.2.2.2.2.2.2.2.2.2.2.2.2.2.2.2.2.2))))))))))))))))), t.2), ()) := (hideF_eq _).trans (by kernel_rfl)
theorem phi (n : Nat) : ∀ e ∈ (X n).c.Φ, EntryOk Tryz.prog e := allE_cons (mkEntry_ok (F_label_Bucket.ok n)) (allE_cons (mkEntry_ok (F_acts_strip_may.ok n)) (allE_cons (mkEntry_ok (F_mode_Good.ok n)) (allE_cons (mkEntry_ok (F_entry_Rules.ok n)) (allE_cons (mkEntry_ok (F_entry_Grants.ok n)) (allE_cons (mkEntry_ok (F_acts_strip_key.ok n)) (allE_cons (mkEntry_ok (F_acts_strip_body.ok n)) (allE_cons (mkEntry_ok (F_acts_strip_tags.ok n)) (allE_cons (mkEntry_ok (F_acts_strip_lock.ok n)) (allE_cons (mkEntry_ok (F_acts_strip_id.ok n)) (allE_cons (mkEntry_ok (F_acts_strip_bypass.ok n)) (allE_cons (mkEntry_ok (F_acts_strip_page.ok n)) (allE_cons (mkEntry_ok (F_acts_name.ok n)) (allE_cons (mkEntry_ok (F_acts_strip_from.ok n)) (allE_cons (mkEntry_ok (F_label_Key.ok n)) (allE_nil)))))))))))))))
theorem ok (n : Nat) : FnOk Tryz.prog 17 ia io (fRun (X n) n T Tryz.f17 ia io) := tree_ok mixed tabIs (phi n) Tryz.func17 (by kernel_rfl) rfl
noncomputable def en (n : Nat) : Entry := mkEntry 17 ia io (fRun (X n) n T Tryz.f17 ia io)
end F_acts_strip_own
end Go.Proofs.YtfpedialdcgnhaaGreatDoor
namespace Go.Proofs.YtfpedialdcgnhaaGreatDoor
open Go Go.Va Go.Proofs
namespace F_acts_Good
abbrev ia : List Ai := [.dat T_api_Request]
abbrev io : List (Nat × Oi) := [(2, .dat .bool)]
abbrev R : Type := DOut ia io
noncomputable def X (n : Nat) : Ctx := ⟨⟨tab, [F_label_Clean.en n, F_acts_anywhere.en n, F_label_Bucket.en n, F_acts_strip_own.en n, F_acts_bare.en n], 0, []⟩, 50, bnOf 0 ia⟩
abbrev g1 : List Si := [.ref 1 1 T_api_Request, .box 1 (.d T_api_Request)]
noncomputable def T : CT := (.s .o (.s .o (.r g1 .o)))
noncomputable def J1 (n : Nat) : D_api_Request × Unit → Option R := jR (X n) n T (bodyOf Tryz.f5) (endK ia io) g1 [1, 1] []
noncomputable def f (n : Nat) (r : D_api_Request) : Option R := fRun (X n) n T Tryz.f5 ia io (r, ())
theorem e0 (n : Nat) (r : D_api_Request) : f n r =
  bIf ((hide (decide ((r.2.1.size : Int) > (64 : Int))))) (
    some (false, ())
    ) (
    bnd (F_label_Clean.f n r.2.1) fun u1 =>
    bIf ((!u1.1)) (
      some (false, ())
      ) (
      bnd (F_acts_anywhere.f n r.1) fun u2 =>
      bIf ((hide (!(u2.1 == (hide (eqS r.2.2.1 (⟨#[]⟩ : ByteArray))))))) (
        some (false, ())
        ) (
        bIf ((hide (!eqS r.2.2.1 (⟨#[]⟩ : ByteArray)))) (
          bnd (F_label_Bucket.f n r.2.2.1) fun u3 =>
          bIf ((!u3.1)) (
            some (false, ())
            ) (
            J1 n (r, ())
            )
          ) (
          J1 n (r, ())
          )
        )
      )
    ) := (hideF_eq _).trans (by kernel_rfl)
theorem e1 (n : Nat) (r : D_api_Request) : J1 n (r, ()) =
  bnd (F_acts_strip_own.f n (r, (true, ()))) fun u1 =>
  bIf (u1.1.2.1) (
    bnd (F_acts_bare.f n u1.1.1) fun u2 =>
    some (u2.1, ())
    ) (
    some (false, ())
    ) := (hideF_eq _).trans (by kernel_rfl)
theorem phi (n : Nat) : ∀ e ∈ (X n).c.Φ, EntryOk Tryz.prog e := allE_cons (mkEntry_ok (F_label_Clean.ok n)) (allE_cons (mkEntry_ok (F_acts_anywhere.ok n)) (allE_cons (mkEntry_ok (F_label_Bucket.ok n)) (allE_cons (mkEntry_ok (F_acts_strip_own.ok n)) (allE_cons (mkEntry_ok (F_acts_bare.ok n)) (allE_nil)))))
theorem ok (n : Nat) : FnOk Tryz.prog 5 ia io (fRun (X n) n T Tryz.f5 ia io) := tree_ok mixed tabIs (phi n) Tryz.func5 (by kernel_rfl) rfl
noncomputable def en (n : Nat) : Entry := mkEntry 5 ia io (fRun (X n) n T Tryz.f5 ia io)
end F_acts_Good
end Go.Proofs.YtfpedialdcgnhaaGreatDoor
namespace Go.Proofs.YtfpedialdcgnhaaGreatDoor
open Go Go.Va Go.Proofs
namespace F_ref24_in
abbrev ia : List Ai := [.dat .str, .dat (.int .u8)]
abbrev io : List (Nat × Oi) := [(4, .dat .bool)]
abbrev R : Type := DOut ia io
noncomputable def X (n : Nat) : Ctx := ⟨⟨tab, [], 0, []⟩, 17, bnOf 0 ia⟩
abbrev g1 : List Si := [.dat 0 .str, .dat 1 (.int .u8), .dat 5 (.int .i64)]
abbrev g2 : List Si := []
noncomputable def T : CT := (.s .o (.s (.s .o (.b (.l g1 .o))) (.r g2 .o)))
noncomputable def J1 (n : Nat) (m : Nat) : ByteArray × Int × Int × Unit → Option R := jL (X n) n T (bodyOf Tryz.f23) (endK ia io) g1 [1, 0, 1, 0] [] m
noncomputable def J2 (n : Nat) : Unit → Option R := jR (X n) n T (bodyOf Tryz.f23) (endK ia io) g2 [1, 1] []
noncomputable def f (n : Nat) (s_ : ByteArray) (b : Int) : Option R := fRun (X n) n T Tryz.f23 ia io (s_, b, ())
theorem e0 (n : Nat) (s_ : ByteArray) (b : Int) : f n s_ b =
  J1 n n (s_, b, 0, ()) := (hideF_eq _).trans (by kernel_rfl)
theorem e1 (n m : Nat) (s_ : ByteArray) (b : Int) (i : Int) : J1 n (m + 1) (s_, b, i, ()) =
  bIf ((hide (decide (i < (s_.size : Int))))) (
    gIf (0 ≤ i ∧ i < (s_.size : Int)) (
      bIf ((hide ((bt s_ i) == b))) (
        some (true, ())
        ) (
        J1 n m (s_, b, (IntKind.i64.wrap (i + (1 : Int))), ())
        )
      )
    ) (
    J2 n (())
    ) := (hideF_eq _).trans (by kernel_rfl)
theorem e2 (n : Nat) : J2 n (()) =
  some (false, ()) := (hideF_eq _).trans (by kernel_rfl)
theorem phi (n : Nat) : ∀ e ∈ (X n).c.Φ, EntryOk Tryz.prog e := allE_nil
theorem ok (n : Nat) : FnOk Tryz.prog 23 ia io (fRun (X n) n T Tryz.f23 ia io) := tree_ok mixed tabIs (phi n) Tryz.func23 (by kernel_rfl) rfl
noncomputable def en (n : Nat) : Entry := mkEntry 23 ia io (fRun (X n) n T Tryz.f23 ia io)
end F_ref24_in
end Go.Proofs.YtfpedialdcgnhaaGreatDoor
namespace Go.Proofs.YtfpedialdcgnhaaGreatDoor
open Go Go.Va Go.Proofs
namespace F_ref24_empty
abbrev ia : List Ai := [.dat T_api_Request, .dat .str]
abbrev io : List (Nat × Oi) := [(4, .dat .bool)]
abbrev R : Type := DOut ia io
noncomputable def X (n : Nat) : Ctx := ⟨⟨tab, [F_ref24_in.en n], 0, []⟩, 159, bnOf 0 ia⟩
abbrev g1 : List Si := [.dat 1 .str, .ref 2 2 T_api_Request, .dat 5 .bool, .box 2 (.d T_api_Request)]
abbrev g2 : List Si := [.dat 1 .str, .ref 2 2 T_api_Request, .dat 5 .bool, .box 2 (.d T_api_Request)]
abbrev g3 : List Si := [.dat 1 .str, .ref 2 2 T_api_Request, .dat 5 .bool, .box 2 (.d T_api_Request)]
noncomputable def T : CT := (.s .o (.s .o (.r g1 (.s .o (.r g2 (.s .o (.r g3 .o)))))))
noncomputable def J1 (n : Nat) : ByteArray × Bool × D_api_Request × Unit → Option R := jR (X n) n T (bodyOf Tryz.f22) (endK ia io) g1 [1, 1] []
noncomputable def J2 (n : Nat) : ByteArray × Bool × D_api_Request × Unit → Option R := jR (X n) n T (bodyOf Tryz.f22) (endK ia io) g2 [1, 1, 1] []
noncomputable def J3 (n : Nat) : ByteArray × Bool × D_api_Request × Unit → Option R := jR (X n) n T (bodyOf Tryz.f22) (endK ia io) g3 [1, 1, 1, 1] []
noncomputable def f (n : Nat) (t : D_api_Request) (o : ByteArray) : Option R := fRun (X n) n T Tryz.f22 ia io (t, o, ())
theorem e0 (n : Nat) (t : D_api_Request) (o : ByteArray) : f n t o =
  bnd (F_ref24_in.f n o 107) fun u1 =>
  bIf (u1.1) (
    bnd (F_ref24_in.f n o 105) fun u2 =>
    bIf (u2.1) (
      bnd (F_ref24_in.f n o 66) fun u3 =>
      bIf (u3.1) (
        bnd (F_ref24_in.f n o 116) fun u4 =>
        bIf (u4.1) (
          J1 n (o, true, t, ())
          ) (
          J1 n (o, (hide (((t.2.2.2.2.2.2.1.length : Nat) : Int) == (0 : Int))), t, ())
          )
        ) (
        bIf ((hide (((t.2.2.2.2.2.1.length : Nat) : Int) == (0 : Int)))) (
          bnd (F_ref24_in.f n o 116) fun u5 =>
          bIf (u5.1) (
            J1 n (o, true, t, ())
            ) (
            J1 n (o, (hide (((t.2.2.2.2.2.2.1.length : Nat) : Int) == (0 : Int))), t, ())
            )
          ) (
          J1 n (o, false, t, ())
          )
        )
      ) (
      bIf ((hide (t.2.2.2.2.1 == (0 : Int)))) (
        bnd (F_ref24_in.f n o 66) fun u6 =>
        bIf (u6.1) (
          bnd (F_ref24_in.f n o 116) fun u7 =>
          bIf (u7.1) (
            J1 n (o, true, t, ())
            ) (
            J1 n (o, (hide (((t.2.2.2.2.2.2.1.length : Nat) : Int) == (0 : Int))), t, ())
            )
          ) (
          bIf ((hide (((t.2.2.2.2.2.1.length : Nat) : Int) == (0 : Int)))) (
            bnd (F_ref24_in.f n o 116) fun u8 =>
            bIf (u8.1) (
              J1 n (o, true, t, ())
              ) (
              J1 n (o, (hide (((t.2.2.2.2.2.2.1.length : Nat) : Int) == (0 : Int))), t, ())
              )
            ) (
            J1 n (o, false, t, ())
            )
          )
        ) (
        J1 n (o, false, t, ())
        )
      )
    ) (
    bIf ((hide (eqS t.2.2.2.1 (⟨#[]⟩ : ByteArray)))) (
      bnd (F_ref24_in.f n o 105) fun u9 =>
      bIf (u9.1) (
        bnd (F_ref24_in.f n o 66) fun u10 =>
        bIf (u10.1) (
          bnd (F_ref24_in.f n o 116) fun u11 =>
          bIf (u11.1) (
            J1 n (o, true, t, ())
            ) (
            J1 n (o, (hide (((t.2.2.2.2.2.2.1.length : Nat) : Int) == (0 : Int))), t, ())
            )
          ) (
          bIf ((hide (((t.2.2.2.2.2.1.length : Nat) : Int) == (0 : Int)))) (
            bnd (F_ref24_in.f n o 116) fun u12 =>
            bIf (u12.1) (
              J1 n (o, true, t, ())
              ) (
              J1 n (o, (hide (((t.2.2.2.2.2.2.1.length : Nat) : Int) == (0 : Int))), t, ())
              )
            ) (
            J1 n (o, false, t, ())
            )
          )
        ) (
        bIf ((hide (t.2.2.2.2.1 == (0 : Int)))) (
          bnd (F_ref24_in.f n o 66) fun u13 =>
          bIf (u13.1) (
            bnd (F_ref24_in.f n o 116) fun u14 =>
            bIf (u14.1) (
              J1 n (o, true, t, ())
              ) (
              J1 n (o, (hide (((t.2.2.2.2.2.2.1.length : Nat) : Int) == (0 : Int))), t, ())
              )
            ) (
            bIf ((hide (((t.2.2.2.2.2.1.length : Nat) : Int) == (0 : Int)))) (
              bnd (F_ref24_in.f n o 116) fun u15 =>
              bIf (u15.1) (
                J1 n (o, true, t, ())
                ) (
                J1 n (o, (hide (((t.2.2.2.2.2.2.1.length : Nat) : Int) == (0 : Int))), t, ())
                )
              ) (
              J1 n (o, false, t, ())
              )
            )
          ) (
          J1 n (o, false, t, ())
          )
        )
      ) (
      J1 n (o, false, t, ())
      )
    ) := (hideF_eq _).trans (by kernel_rfl)
theorem e1 (n : Nat) (o : ByteArray) (a : Bool) (A : D_api_Request) : J1 n (o, a, A, ()) =
  bIf (a) (
    bnd (F_ref24_in.f n o 108) fun u1 =>
    bIf (u1.1) (
      bnd (F_ref24_in.f n o 121) fun u2 =>
      bIf (u2.1) (
        bnd (F_ref24_in.f n o 100) fun u3 =>
        bIf (u3.1) (
          bnd (F_ref24_in.f n o 114) fun u4 =>
          bIf (u4.1) (
            J2 n (o, true, A, ())
            ) (
            J2 n (o, (hide (((A.2.2.2.2.2.2.2.2.2.2.1.length : Nat) : Int) == (0 : Int))), A, ())
            )
          ) (
          bIf ((hide (eqD T_api_Default A.2.2.2.2.2.2.2.2.2.1 (0, (0, ()))))) (
            bnd (F_ref24_in.f n o 114) fun u5 =>
            bIf (u5.1) (
              J2 n (o, true, A, ())
              ) (
              J2 n (o, (hide (((A.2.2.2.2.2.2.2.2.2.2.1.length : Nat) : Int) == (0 : Int))), A, ())
              )
            ) (
            J2 n (o, false, A, ())
            )
          )
        ) (
        bIf ((!A.2.2.2.2.2.2.2.2.1)) (
          bnd (F_ref24_in.f n o 100) fun u6 =>
          bIf (u6.1) (
            bnd (F_ref24_in.f n o 114) fun u7 =>
            bIf (u7.1) (
              J2 n (o, true, A, ())
              ) (
              J2 n (o, (hide (((A.2.2.2.2.2.2.2.2.2.2.1.length : Nat) : Int) == (0 : Int))), A, ())
              )
            ) (
            bIf ((hide (eqD T_api_Default A.2.2.2.2.2.2.2.2.2.1 (0, (0, ()))))) (
              bnd (F_ref24_in.f n o 114) fun u8 =>
              bIf (u8.1) (
                J2 n (o, true, A, ())
                ) (
                J2 n (o, (hide (((A.2.2.2.2.2.2.2.2.2.2.1.length : Nat) : Int) == (0 : Int))), A, ())
                )
              ) (
              J2 n (o, false, A, ())
              )
            )
          ) (
          J2 n (o, false, A, ())
          )
        )
      ) (
      bIf ((hide (eqD T_api_Lock A.2.2.2.2.2.2.2.1 (0, (0, (false, ())))))) (
        bnd (F_ref24_in.f n o 121) fun u9 =>
        bIf (u9.1) (
          bnd (F_ref24_in.f n o 100) fun u10 =>
          bIf (u10.1) (
            bnd (F_ref24_in.f n o 114) fun u11 =>
            bIf (u11.1) (
              J2 n (o, true, A, ())
              ) (
              J2 n (o, (hide (((A.2.2.2.2.2.2.2.2.2.2.1.length : Nat) : Int) == (0 : Int))), A, ())
              )
            ) (
            bIf ((hide (eqD T_api_Default A.2.2.2.2.2.2.2.2.2.1 (0, (0, ()))))) (
              bnd (F_ref24_in.f n o 114) fun u12 =>
              bIf (u12.1) (
                J2 n (o, true, A, ())
                ) (
                J2 n (o, (hide (((A.2.2.2.2.2.2.2.2.2.2.1.length : Nat) : Int) == (0 : Int))), A, ())
                )
              ) (
              J2 n (o, false, A, ())
              )
            )
          ) (
          bIf ((!A.2.2.2.2.2.2.2.2.1)) (
            bnd (F_ref24_in.f n o 100) fun u13 =>
            bIf (u13.1) (
              bnd (F_ref24_in.f n o 114) fun u14 =>
              bIf (u14.1) (
                J2 n (o, true, A, ())
                ) (
                J2 n (o, (hide (((A.2.2.2.2.2.2.2.2.2.2.1.length : Nat) : Int) == (0 : Int))), A, ())
                )
              ) (
              bIf ((hide (eqD T_api_Default A.2.2.2.2.2.2.2.2.2.1 (0, (0, ()))))) (
                bnd (F_ref24_in.f n o 114) fun u15 =>
                bIf (u15.1) (
                  J2 n (o, true, A, ())
                  ) (
                  J2 n (o, (hide (((A.2.2.2.2.2.2.2.2.2.2.1.length : Nat) : Int) == (0 : Int))), A, ())
                  )
                ) (
                J2 n (o, false, A, ())
                )
              )
            ) (
            J2 n (o, false, A, ())
            )
          )
        ) (
        J2 n (o, false, A, ())
        )
      )
    ) (
    J2 n (o, false, A, ())
    ) := (hideF_eq _).trans (by kernel_rfl)
theorem e2 (n : Nat) (o : ByteArray) (a : Bool) (A : D_api_Request) : J2 n (o, a, A, ()) =
  bIf (a) (
    bnd (F_ref24_in.f n o 103) fun u1 =>
    bIf (u1.1) (
      bnd (F_ref24_in.f n o 110) fun u2 =>
      bIf (u2.1) (
        bnd (F_ref24_in.f n o 78) fun u3 =>
        bIf (u3.1) (
          bnd (F_ref24_in.f n o 97) fun u4 =>
          bIf (u4.1) (
            J3 n (o, true, A, ())
            ) (
            J3 n (o, (hide (eqS A.2.2.2.2.2.2.2.2.2.2.2.2.2.2.1 (⟨#[]⟩ : ByteArray))), A, ())
            )
          ) (
          bIf ((hide (((A.2.2.2.2.2.2.2.2.2.2.2.2.2.1.length : Nat) : Int) == (0 : Int)))) (
            bnd (F_ref24_in.f n o 97) fun u5 =>
            bIf (u5.1) (
              J3 n (o, true, A, ())
              ) (
              J3 n (o, (hide (eqS A.2.2.2.2.2.2.2.2.2.2.2.2.2.2.1 (⟨#[]⟩ : ByteArray))), A, ())
              )
            ) (
            J3 n (o, false, A, ())
            )
          )
        ) (
        bIf ((hide (A.2.2.2.2.2.2.2.2.2.2.2.2.1 == (0 : Int)))) (
          bnd (F_ref24_in.f n o 78) fun u6 =>
          bIf (u6.1) (
            bnd (F_ref24_in.f n o 97) fun u7 =>
            bIf (u7.1) (
              J3 n (o, true, A, ())
              ) (
              J3 n (o, (hide (eqS A.2.2.2.2.2.2.2.2.2.2.2.2.2.2.1 (⟨#[]⟩ : ByteArray))), A, ())
              )
            ) (
            bIf ((hide (((A.2.2.2.2.2.2.2.2.2.2.2.2.2.1.length : Nat) : Int) == (0 : Int)))) (
              bnd (F_ref24_in.f n o 97) fun u8 =>
              bIf (u8.1) (
                J3 n (o, true, A, ())
                ) (
                J3 n (o, (hide (eqS A.2.2.2.2.2.2.2.2.2.2.2.2.2.2.1 (⟨#[]⟩ : ByteArray))), A, ())
                )
              ) (
              J3 n (o, false, A, ())
              )
            )
          ) (
          J3 n (o, false, A, ())
          )
        )
      ) (
      bIf ((hide (((A.2.2.2.2.2.2.2.2.2.2.2.1.length : Nat) : Int) == (0 : Int)))) (
        bnd (F_ref24_in.f n o 110) fun u9 =>
        bIf (u9.1) (
          bnd (F_ref24_in.f n o 78) fun u10 =>
          bIf (u10.1) (
            bnd (F_ref24_in.f n o 97) fun u11 =>
            bIf (u11.1) (
              J3 n (o, true, A, ())
              ) (
              J3 n (o, (hide (eqS A.2.2.2.2.2.2.2.2.2.2.2.2.2.2.1 (⟨#[]⟩ : ByteArray))), A, ())
              )
            ) (
            bIf ((hide (((A.2.2.2.2.2.2.2.2.2.2.2.2.2.1.length : Nat) : Int) == (0 : Int)))) (
              bnd (F_ref24_in.f n o 97) fun u12 =>
              bIf (u12.1) (
                J3 n (o, true, A, ())
                ) (
                J3 n (o, (hide (eqS A.2.2.2.2.2.2.2.2.2.2.2.2.2.2.1 (⟨#[]⟩ : ByteArray))), A, ())
                )
              ) (
              J3 n (o, false, A, ())
              )
            )
          ) (
          bIf ((hide (A.2.2.2.2.2.2.2.2.2.2.2.2.1 == (0 : Int)))) (
            bnd (F_ref24_in.f n o 78) fun u13 =>
            bIf (u13.1) (
              bnd (F_ref24_in.f n o 97) fun u14 =>
              bIf (u14.1) (
                J3 n (o, true, A, ())
                ) (
                J3 n (o, (hide (eqS A.2.2.2.2.2.2.2.2.2.2.2.2.2.2.1 (⟨#[]⟩ : ByteArray))), A, ())
                )
              ) (
              bIf ((hide (((A.2.2.2.2.2.2.2.2.2.2.2.2.2.1.length : Nat) : Int) == (0 : Int)))) (
                bnd (F_ref24_in.f n o 97) fun u15 =>
                bIf (u15.1) (
                  J3 n (o, true, A, ())
                  ) (
                  J3 n (o, (hide (eqS A.2.2.2.2.2.2.2.2.2.2.2.2.2.2.1 (⟨#[]⟩ : ByteArray))), A, ())
                  )
                ) (
                J3 n (o, false, A, ())
                )
              )
            ) (
            J3 n (o, false, A, ())
            )
          )
        ) (
        J3 n (o, false, A, ())
        )
      )
    ) (
    J3 n (o, false, A, ())
    ) := (hideF_eq _).trans (by kernel_rfl)
theorem e3 (n : Nat) (o : ByteArray) (a : Bool) (A : D_api_Request) : J3 n (o, a, A, ()) =
  bIf (a) (
    bnd (F_ref24_in.f n o 112) fun u1 =>
    bIf (u1.1) (
      bnd (F_ref24_in.f n o 109) fun u2 =>
      bIf (u2.1) (
        bnd (F_ref24_in.f n o 102) fun u3 =>
        bIf (u3.1) (
          bnd (F_ref24_in.f n o 120) fun u4 =>
          bIf (u4.1) (
            some (true, ())
            ) (
            some ((hide (A.2.2.2.2.2.2.2.2.2.2.2.2.2.2.2.2.2.2.1 == (0 : Int))), ())
            )
          ) (
          bIf ((hide (eqD T_api_Spot A.2.2.2.2.2.2.2.2.2.2.2.2.2.2.2.2.2.1 ((⟨#[]⟩ : ByteArray), ((⟨#[]⟩ : ByteArray), (0, ())))))) (
            bnd (F_ref24_in.f n o 120) fun u5 =>
            bIf (u5.1) (
              some (true, ())
              ) (
              some ((hide (A.2.2.2.2.2.2.2.2.2.2.2.2.2.2.2.2.2.2.1 == (0 : Int))), ())
              )
            ) (
            some (false, ())
            )
          )
        ) (
        bIf ((hide (eqS A.2.2.2.2.2.2.2.2.2.2.2.2.2.2.2.2.1 (⟨#[]⟩ : ByteArray)))) (
          bnd (F_ref24_in.f n o 102) fun u6 =>
          bIf (u6.1) (
            bnd (F_ref24_in.f n o 120) fun u7 =>
            bIf (u7.1) (
              some (true, ())
              ) (
              some ((hide (A.2.2.2.2.2.2.2.2.2.2.2.2.2.2.2.2.2.2.1 == (0 : Int))), ())
              )
            ) (
            bIf ((hide (eqD T_api_Spot A.2.2.2.2.2.2.2.2.2.2.2.2.2.2.2.2.2.1 ((⟨#[]⟩ : ByteArray), ((⟨#[]⟩ : ByteArray), (0, ())))))) (
              bnd (F_ref24_in.f n o 120) fun u8 =>
              bIf (u8.1) (
                some (true, ())
                ) (
                some ((hide (A.2.2.2.2.2.2.2.2.2.2.2.2.2.2.2.2.2.2.1 == (0 : Int))), ())
                )
              ) (
              some (false, ())
              )
            )
          ) (
          some (false, ())
          )
        )
      ) (
      bIf ((hide (eqS A.2.2.2.2.2.2.2.2.2.2.2.2.2.2.2.1 (⟨#[]⟩ : ByteArray)))) (
        bnd (F_ref24_in.f n o 109) fun u9 =>
        bIf (u9.1) (
          bnd (F_ref24_in.f n o 102) fun u10 =>
          bIf (u10.1) (
            bnd (F_ref24_in.f n o 120) fun u11 =>
            bIf (u11.1) (
              some (true, ())
              ) (
              some ((hide (A.2.2.2.2.2.2.2.2.2.2.2.2.2.2.2.2.2.2.1 == (0 : Int))), ())
              )
            ) (
            bIf ((hide (eqD T_api_Spot A.2.2.2.2.2.2.2.2.2.2.2.2.2.2.2.2.2.1 ((⟨#[]⟩ : ByteArray), ((⟨#[]⟩ : ByteArray), (0, ())))))) (
              bnd (F_ref24_in.f n o 120) fun u12 =>
              bIf (u12.1) (
                some (true, ())
                ) (
                some ((hide (A.2.2.2.2.2.2.2.2.2.2.2.2.2.2.2.2.2.2.1 == (0 : Int))), ())
                )
              ) (
              some (false, ())
              )
            )
          ) (
          bIf ((hide (eqS A.2.2.2.2.2.2.2.2.2.2.2.2.2.2.2.2.1 (⟨#[]⟩ : ByteArray)))) (
            bnd (F_ref24_in.f n o 102) fun u13 =>
            bIf (u13.1) (
              bnd (F_ref24_in.f n o 120) fun u14 =>
              bIf (u14.1) (
                some (true, ())
                ) (
                some ((hide (A.2.2.2.2.2.2.2.2.2.2.2.2.2.2.2.2.2.2.1 == (0 : Int))), ())
                )
              ) (
              bIf ((hide (eqD T_api_Spot A.2.2.2.2.2.2.2.2.2.2.2.2.2.2.2.2.2.1 ((⟨#[]⟩ : ByteArray), ((⟨#[]⟩ : ByteArray), (0, ())))))) (
                bnd (F_ref24_in.f n o 120) fun u15 =>
                bIf (u15.1) (
                  some (true, ())
                  ) (
                  some ((hide (A.2.2.2.2.2.2.2.2.2.2.2.2.2.2.2.2.2.2.1 == (0 : Int))), ())
                  )
                ) (
                some (false, ())
                )
              )
            ) (
            some (false, ())
            )
          )
        ) (
        some (false, ())
        )
      )
    ) (
    some (false, ())
    ) := (hideF_eq _).trans (by kernel_rfl)
theorem phi (n : Nat) : ∀ e ∈ (X n).c.Φ, EntryOk Tryz.prog e := allE_cons (mkEntry_ok (F_ref24_in.ok n)) (allE_nil)
theorem ok (n : Nat) : FnOk Tryz.prog 22 ia io (fRun (X n) n T Tryz.f22 ia io) := tree_ok mixed tabIs (phi n) Tryz.func22 (by kernel_rfl) rfl
noncomputable def en (n : Nat) : Entry := mkEntry 22 ia io (fRun (X n) n T Tryz.f22 ia io)
end F_ref24_empty
end Go.Proofs.YtfpedialdcgnhaaGreatDoor
namespace Go.Proofs.YtfpedialdcgnhaaGreatDoor
open Go Go.Va Go.Proofs
namespace F_ref24_has
abbrev ia : List Ai := [.dat (.int .i64)]
abbrev io : List (Nat × Oi) := [(2, .dat .str)]
abbrev R : Type := DOut ia io
noncomputable def X (n : Nat) : Ctx := ⟨⟨tab, [], 0, []⟩, 40, bnOf 0 ia⟩
abbrev g1 : List Si := [.dat 3 (.int .i64), .dat 4 .bool]
abbrev g2 : List Si := [.dat 3 (.int .i64), .dat 13 .bool]
noncomputable def T : CT := (.s .o (.s (.s .o (.b (.s .o (.r g1 (.c .o (.s .o (.c .o (.s .o (.c .o (.s .o (.c .o (.s .o (.r g2 .o))))))))))))) .o))
noncomputable def J1 (n : Nat) : Int × Bool × Unit → Option R := jR (X n) n T (bodyOf Tryz.f21) (endK ia io) g1 [1, 0, 1, 0, 1] []
noncomputable def J2 (n : Nat) : Int × Bool × Unit → Option R := jR (X n) n T (bodyOf Tryz.f21) (endK ia io) g2 [1, 0, 1, 0, 1, 1, 1, 1, 1, 1, 1, 1, 1] []
noncomputable def f (n : Nat) (kind : Int) : Option R := fRun (X n) n T Tryz.f21 ia io (kind, ())
theorem e0 (n : Nat) (kind : Int) : f n kind =
  bIf ((hide (kind == (1 : Int)))) (
    J1 n (kind, true, ())
    ) (
    J1 n (kind, (hide (kind == (3 : Int))), ())
    ) := (hideF_eq _).trans (by kernel_rfl)
theorem e1 (n : Nat) (t3 : Int) (t4 : Bool) : J1 n (t3, t4, ()) =
  bIf (t4) (
    some ((⟨#[100]⟩ : ByteArray), ())
    ) (
    bIf ((hide (t3 == (4 : Int)))) (
      some ((⟨#[114]⟩ : ByteArray), ())
      ) (
      bIf ((hide (t3 == (5 : Int)))) (
        some ((⟨#[103]⟩ : ByteArray), ())
        ) (
        bIf ((hide (t3 == (6 : Int)))) (
          some ((⟨#[107, 66, 116, 108]⟩ : ByteArray), ())
          ) (
          bIf ((hide (t3 == (7 : Int)))) (
            J2 n (t3, true, ())
            ) (
            J2 n (t3, (hide (t3 == (8 : Int))), ())
            )
          )
        )
      )
    ) := (hideF_eq _).trans (by kernel_rfl)
theorem e2 (n : Nat) (t3 : Int) (t13 : Bool) : J2 n (t3, t13, ()) =
  bIf (t13) (
    some ((⟨#[107, 105]⟩ : ByteArray), ())
    ) (
    bIf ((hide (t3 == (9 : Int)))) (
      some ((⟨#[107]⟩ : ByteArray), ())
      ) (
      bIf ((hide (t3 == (10 : Int)))) (
        some ((⟨#[107, 105, 121]⟩ : ByteArray), ())
        ) (
        bIf ((hide (t3 == (11 : Int)))) (
          some ((⟨#[107, 105, 108, 121]⟩ : ByteArray), ())
          ) (
          bIf ((hide (t3 == (12 : Int)))) (
            some ((⟨#[107, 105, 108]⟩ : ByteArray), ())
            ) (
            bIf ((hide (t3 == (13 : Int)))) (
              some ((⟨#[107, 105, 116]⟩ : ByteArray), ())
              ) (
              bIf ((hide (t3 == (14 : Int)))) (
                some ((⟨#[112, 109, 97, 120]⟩ : ByteArray), ())
                ) (
                bIf ((hide (t3 == (15 : Int)))) (
                  some ((⟨#[112, 102, 120]⟩ : ByteArray), ())
                  ) (
                  bIf ((hide (t3 == (16 : Int)))) (
                    some ((⟨#[107, 116]⟩ : ByteArray), ())
                    ) (
                    bIf ((hide (t3 == (17 : Int)))) (
                      some ((⟨#[105, 110, 66]⟩ : ByteArray), ())
                      ) (
                      bIf ((hide (t3 == (18 : Int)))) (
                        some ((⟨#[105, 78]⟩ : ByteArray), ())
                        ) (
                        bIf ((hide (t3 == (19 : Int)))) (
                          some ((⟨#[105]⟩ : ByteArray), ())
                          ) (
                          bIf ((hide (t3 == (20 : Int)))) (
                            some ((⟨#[107, 102]⟩ : ByteArray), ())
                            ) (
                            some ((⟨#[46]⟩ : ByteArray), ())
                            )
                          )
                        )
                      )
                    )
                  )
                )
              )
            )
          )
        )
      )
    ) := (hideF_eq _).trans (by kernel_rfl)
theorem phi (n : Nat) : ∀ e ∈ (X n).c.Φ, EntryOk Tryz.prog e := allE_nil
theorem ok (n : Nat) : FnOk Tryz.prog 21 ia io (fRun (X n) n T Tryz.f21 ia io) := tree_ok mixed tabIs (phi n) Tryz.func21 (by kernel_rfl) rfl
noncomputable def en (n : Nat) : Entry := mkEntry 21 ia io (fRun (X n) n T Tryz.f21 ia io)
end F_ref24_has
end Go.Proofs.YtfpedialdcgnhaaGreatDoor
namespace Go.Proofs.YtfpedialdcgnhaaGreatDoor
open Go Go.Va Go.Proofs
namespace F_ref24_name
abbrev ia : List Ai := [.dat .str]
abbrev io : List (Nat × Oi) := [(2, .dat .bool)]
abbrev R : Type := DOut ia io
noncomputable def X (n : Nat) : Ctx := ⟨⟨tab, [F_ref06_Clean.en n], 0, []⟩, 10, bnOf 0 ia⟩
noncomputable def T : CT := .o
noncomputable def f (n : Nat) (s_ : ByteArray) : Option R := fRun (X n) n T Tryz.f30 ia io (s_, ())
theorem e0 (n : Nat) (s_ : ByteArray) : f n s_ =
  bIf ((hide (decide ((s_.size : Int) ≤ (200 : Int))))) (
    bnd (F_ref06_Clean.f n s_) fun u1 =>
    some (u1.1, ())
    ) (
    some (false, ())
    ) := (hideF_eq _).trans (by kernel_rfl)
theorem phi (n : Nat) : ∀ e ∈ (X n).c.Φ, EntryOk Tryz.prog e := allE_cons (mkEntry_ok (F_ref06_Clean.ok n)) (allE_nil)
theorem ok (n : Nat) : FnOk Tryz.prog 30 ia io (fRun (X n) n T Tryz.f30 ia io) := tree_ok mixed tabIs (phi n) Tryz.func30 (by kernel_rfl) rfl
noncomputable def en (n : Nat) : Entry := mkEntry 30 ia io (fRun (X n) n T Tryz.f30 ia io)
end F_ref24_name
end Go.Proofs.YtfpedialdcgnhaaGreatDoor
namespace Go.Proofs.YtfpedialdcgnhaaGreatDoor
open Go Go.Va Go.Proofs
namespace F_ref24_Good
abbrev ia : List Ai := [.dat T_api_Request]
abbrev io : List (Nat × Oi) := [(2, .dat .bool)]
abbrev R : Type := DOut ia io
noncomputable def X (n : Nat) : Ctx := ⟨⟨tab, [F_ref06_Clean.en n, F_ref06_Bucket.en n, F_ref24_has.en n, F_ref24_empty.en n, F_ref24_in.en n, F_ref06_Key.en n, F_ref08_Sound.en n, F_ref12_Sound.en n, F_ref12_Good.en n, F_ref14_Rules.en n, F_ref14_Grants.en n, F_ref24_name.en n], 0, []⟩, 224, bnOf 0 ia⟩
abbrev g1 : List Si := [.ref 1 1 T_api_Request, .box 1 (.d T_api_Request)]
abbrev g2 : List Si := [.ref 1 1 T_api_Request, .box 1 (.d T_api_Request)]
abbrev g3 : List Si := [.ref 1 1 T_api_Request, .dat 3 .str, .dat 4 (.int .u64), .box 1 (.d T_api_Request)]
abbrev g4 : List Si := [.ref 1 1 T_api_Request, .dat 3 .str, .dat 5 .bool, .box 1 (.d T_api_Request)]
abbrev g5 : List Si := [.ref 1 1 T_api_Request, .dat 5 .bool, .box 1 (.d T_api_Request)]
noncomputable def T : CT := (.s .o (.s .o (.r g1 (.s .o (.r g2 (.s .o (.s .o (.s .o (.s .o (.r g3 (.s .o (.r g4 (.s .o (.r g5 .o))))))))))))))
noncomputable def J1 (n : Nat) : D_api_Request × Unit → Option R := jR (X n) n T (bodyOf Tryz.f6) (endK ia io) g1 [1, 1] []
noncomputable def J2 (n : Nat) : D_api_Request × Unit → Option R := jR (X n) n T (bodyOf Tryz.f6) (endK ia io) g2 [1, 1, 1] []
noncomputable def J3 (n : Nat) : ByteArray × Int × D_api_Request × Unit → Option R := jR (X n) n T (bodyOf Tryz.f6) (endK ia io) g3 [1, 1, 1, 1, 1, 1, 1] []
noncomputable def J4 (n : Nat) : ByteArray × Bool × D_api_Request × Unit → Option R := jR (X n) n T (bodyOf Tryz.f6) (endK ia io) g4 [1, 1, 1, 1, 1, 1, 1, 1] []
noncomputable def J5 (n : Nat) : Bool × D_api_Request × Unit → Option R := jR (X n) n T (bodyOf Tryz.f6) (endK ia io) g5 [1, 1, 1, 1, 1, 1, 1, 1, 1] []
noncomputable def f (n : Nat) (t : D_api_Request) : Option R := fRun (X n) n T Tryz.f6 ia io (t, ())
theorem e0 (n : Nat) (t : D_api_Request) : f n t =
  bIf ((hide (decide (t.1 < (1 : Int))))) (
    some (false, ())
    ) (
    bIf ((hide (decide (t.1 > (22 : Int))))) (
      some (false, ())
      ) (
      bIf ((hide (decide ((t.2.1.size : Int) > (64 : Int))))) (
        some (false, ())
        ) (
        bnd (F_ref06_Clean.f n t.2.1) fun u1 =>
        bIf ((!u1.1)) (
          some (false, ())
          ) (
          J1 n (t, ())
          )
        )
      )
    ) := (hideF_eq _).trans (by kernel_rfl)
theorem e1 (n : Nat) (o : D_api_Request) : J1 n (o, ()) =
  bIf ((hide (decide (o.1 ≥ (21 : Int))))) (
    bIf ((hide (!eqS o.2.2.1 (⟨#[]⟩ : ByteArray)))) (
      some (false, ())
      ) (
      bIf ((hide (decide (o.1 < (21 : Int))))) (
        bnd (F_ref06_Bucket.f n o.2.2.1) fun u1 =>
        bIf ((!u1.1)) (
          some (false, ())
          ) (
          J2 n (o, ())
          )
        ) (
        J2 n (o, ())
        )
      )
    ) (
    bIf ((hide (decide (o.1 < (21 : Int))))) (
      bnd (F_ref06_Bucket.f n o.2.2.1) fun u2 =>
      bIf ((!u2.1)) (
        some (false, ())
        ) (
        J2 n (o, ())
        )
      ) (
      J2 n (o, ())
      )
    ) := (hideF_eq _).trans (by kernel_rfl)
theorem e2 (n : Nat) (o : D_api_Request) : J2 n (o, ()) =
  bnd (F_ref24_has.f n o.1) fun u1 =>
  bnd (F_ref24_empty.f n o u1.1) fun u2 =>
  bIf ((!u2.1)) (
    some (false, ())
    ) (
    bIf ((hide (o.1 == (10 : Int)))) (
      J3 n (u1.1, 1, o, ())
      ) (
      bIf ((hide (o.1 == (17 : Int)))) (
        J3 n (u1.1, 1, o, ())
        ) (
        bIf ((hide (o.1 == (18 : Int)))) (
          J3 n (u1.1, 1, o, ())
          ) (
          bIf ((hide (o.1 == (19 : Int)))) (
            J3 n (u1.1, 1, o, ())
            ) (
            J3 n (u1.1, 0, o, ())
            )
          )
        )
      )
    ) := (hideF_eq _).trans (by kernel_rfl)
theorem e3 (n : Nat) (r : ByteArray) (r' : Int) (o : D_api_Request) : J3 n (r, r', o, ()) =
  bnd (F_ref24_in.f n r 107) fun u1 =>
  bIf ((!u1.1)) (
    bIf ((hide (decide (o.2.2.2.2.1 ≥ r')))) (
      bIf ((hide (decide (((o.2.2.2.2.2.1.length : Nat) : Int) ≤ (1024 : Int))))) (
        bnd (F_ref08_Sound.f n o.2.2.2.2.2.2.1) fun u2 =>
        bIf (u2.1) (
          bnd (F_ref12_Sound.f n o.2.2.2.2.2.2.2.1) fun u3 =>
          bIf (u3.1) (
            bnd (F_ref12_Good.f n o.2.2.2.2.2.2.2.2.2.1) fun u4 =>
            bIf (u4.1) (
              bnd (F_ref14_Rules.f n o.2.2.2.2.2.2.2.2.2.2.1) fun u5 =>
              bIf (u5.1) (
                bnd (F_ref14_Grants.f n o.2.2.2.2.2.2.2.2.2.2.2.1) fun u6 =>
                J4 n (r, u6.1, o, ())
                ) (
                J4 n (r, false, o, ())
                )
              ) (
              J4 n (r, false, o, ())
              )
            ) (
            J4 n (r, false, o, ())
            )
          ) (
          J4 n (r, false, o, ())
          )
        ) (
        J4 n (r, false, o, ())
        )
      ) (
      J4 n (r, false, o, ())
      )
    ) (
    bnd (F_ref06_Key.f n o.2.2.2.1) fun u7 =>
    bIf (u7.1) (
      bIf ((hide (decide (o.2.2.2.2.1 ≥ r')))) (
        bIf ((hide (decide (((o.2.2.2.2.2.1.length : Nat) : Int) ≤ (1024 : Int))))) (
          bnd (F_ref08_Sound.f n o.2.2.2.2.2.2.1) fun u8 =>
          bIf (u8.1) (
            bnd (F_ref12_Sound.f n o.2.2.2.2.2.2.2.1) fun u9 =>
            bIf (u9.1) (
              bnd (F_ref12_Good.f n o.2.2.2.2.2.2.2.2.2.1) fun u10 =>
              bIf (u10.1) (
                bnd (F_ref14_Rules.f n o.2.2.2.2.2.2.2.2.2.2.1) fun u11 =>
                bIf (u11.1) (
                  bnd (F_ref14_Grants.f n o.2.2.2.2.2.2.2.2.2.2.2.1) fun u12 =>
                  J4 n (r, u12.1, o, ())
                  ) (
                  J4 n (r, false, o, ())
                  )
                ) (
                J4 n (r, false, o, ())
                )
              ) (
              J4 n (r, false, o, ())
              )
            ) (
            J4 n (r, false, o, ())
            )
          ) (
          J4 n (r, false, o, ())
          )
        ) (
        J4 n (r, false, o, ())
        )
      ) (
      J4 n (r, false, o, ())
      )
    ) := (hideF_eq _).trans (by kernel_rfl)
theorem e4 (n : Nat) (r : ByteArray) (a : Bool) (o : D_api_Request) : J4 n (r, a, o, ()) =
  bIf (a) (
    bnd (F_ref24_in.f n r 110) fun u1 =>
    bIf ((!u1.1)) (
      bIf ((hide (decide (((o.2.2.2.2.2.2.2.2.2.2.2.2.2.1.length : Nat) : Int) ≤ (16 : Int))))) (
        bnd (F_ref24_name.f n o.2.2.2.2.2.2.2.2.2.2.2.2.2.2.1) fun u2 =>
        bIf (u2.1) (
          bnd (F_ref24_name.f n o.2.2.2.2.2.2.2.2.2.2.2.2.2.2.2.1) fun u3 =>
          bIf (u3.1) (
            bnd (F_ref24_name.f n o.2.2.2.2.2.2.2.2.2.2.2.2.2.2.2.2.1) fun u4 =>
            bIf (u4.1) (
              bnd (F_ref24_in.f n r 120) fun u5 =>
              bIf ((!u5.1)) (
                J5 n (true, o, ())
                ) (
                bIf ((hide (decide (o.2.2.2.2.2.2.2.2.2.2.2.2.2.2.2.2.2.2.1 ≥ (1 : Int))))) (
                  J5 n ((hide (decide (o.2.2.2.2.2.2.2.2.2.2.2.2.2.2.2.2.2.2.1 ≤ (100 : Int)))), o, ())
                  ) (
                  J5 n (false, o, ())
                  )
                )
              ) (
              J5 n (false, o, ())
              )
            ) (
            J5 n (false, o, ())
            )
          ) (
          J5 n (false, o, ())
          )
        ) (
        J5 n (false, o, ())
        )
      ) (
      bIf ((hide (decide (o.2.2.2.2.2.2.2.2.2.2.2.2.1 ≥ (1 : Int))))) (
        bIf ((hide (decide (o.2.2.2.2.2.2.2.2.2.2.2.2.1 ≤ (10000 : Int))))) (
          bIf ((hide (decide (((o.2.2.2.2.2.2.2.2.2.2.2.2.2.1.length : Nat) : Int) ≤ (16 : Int))))) (
            bnd (F_ref24_name.f n o.2.2.2.2.2.2.2.2.2.2.2.2.2.2.1) fun u6 =>
            bIf (u6.1) (
              bnd (F_ref24_name.f n o.2.2.2.2.2.2.2.2.2.2.2.2.2.2.2.1) fun u7 =>
              bIf (u7.1) (
                bnd (F_ref24_name.f n o.2.2.2.2.2.2.2.2.2.2.2.2.2.2.2.2.1) fun u8 =>
                bIf (u8.1) (
                  bnd (F_ref24_in.f n r 120) fun u9 =>
                  bIf ((!u9.1)) (
                    J5 n (true, o, ())
                    ) (
                    bIf ((hide (decide (o.2.2.2.2.2.2.2.2.2.2.2.2.2.2.2.2.2.2.1 ≥ (1 : Int))))) (
                      J5 n ((hide (decide (o.2.2.2.2.2.2.2.2.2.2.2.2.2.2.2.2.2.2.1 ≤ (100 : Int)))), o, ())
                      ) (
                      J5 n (false, o, ())
                      )
                    )
                  ) (
                  J5 n (false, o, ())
                  )
                ) (
                J5 n (false, o, ())
                )
              ) (
              J5 n (false, o, ())
              )
            ) (
            J5 n (false, o, ())
            )
          ) (
          J5 n (false, o, ())
          )
        ) (
        J5 n (false, o, ())
        )
      )
    ) (
    J5 n (false, o, ())
    ) := (hideF_eq _).trans (by kernel_rfl)
theorem e5 (n : Nat) (a : Bool) (o : D_api_Request) : J5 n (a, o, ()) =
  bIf ((hide (o.1 == (11 : Int)))) (
    bIf (a) (
      some ((!o.2.2.2.2.2.2.2.1.2.2.1), ())
      ) (
      some (false, ())
      )
    ) (
    bIf ((hide (o.1 == (12 : Int)))) (
      bIf (a) (
        some ((hide (o.2.2.2.2.2.2.2.1.1 == (0 : Int))), ())
        ) (
        some (false, ())
        )
      ) (
      bIf ((hide (o.1 == (15 : Int)))) (
        bIf (a) (
          bIf ((hide (eqS o.2.2.2.2.2.2.2.2.2.2.2.2.2.2.2.2.2.1.1 (⟨#[]⟩ : ByteArray)))) (
            bnd (F_ref24_name.f n o.2.2.2.2.2.2.2.2.2.2.2.2.2.2.2.2.2.1.2.1) fun u1 =>
            some (u1.1, ())
            ) (
            some (false, ())
            )
          ) (
          some (false, ())
          )
        ) (
        bIf ((hide (o.1 == (20 : Int)))) (
          bIf (a) (
            bnd (F_ref06_Bucket.f n o.2.2.2.2.2.2.2.2.2.2.2.2.2.2.2.2.2.1.1) fun u2 =>
            bIf (u2.1) (
              bnd (F_ref06_Key.f n o.2.2.2.2.2.2.2.2.2.2.2.2.2.2.2.2.2.1.2.1) fun u3 =>
              bIf (u3.1) (
                some ((hide (decide (o.2.2.2.2.2.2.2.2.2.2.2.2.2.2.2.2.2.1.2.2.1 ≥ (1 : Int)))), ())
                ) (
                some (false, ())
                )
              ) (
              some (false, ())
              )
            ) (
            some (false, ())
            )
          ) (
          some (a, ())
          )
        )
      )
    ) := (hideF_eq _).trans (by kernel_rfl)
theorem phi (n : Nat) : ∀ e ∈ (X n).c.Φ, EntryOk Tryz.prog e := allE_cons (mkEntry_ok (F_ref06_Clean.ok n)) (allE_cons (mkEntry_ok (F_ref06_Bucket.ok n)) (allE_cons (mkEntry_ok (F_ref24_has.ok n)) (allE_cons (mkEntry_ok (F_ref24_empty.ok n)) (allE_cons (mkEntry_ok (F_ref24_in.ok n)) (allE_cons (mkEntry_ok (F_ref06_Key.ok n)) (allE_cons (mkEntry_ok (F_ref08_Sound.ok n)) (allE_cons (mkEntry_ok (F_ref12_Sound.ok n)) (allE_cons (mkEntry_ok (F_ref12_Good.ok n)) (allE_cons (mkEntry_ok (F_ref14_Rules.ok n)) (allE_cons (mkEntry_ok (F_ref14_Grants.ok n)) (allE_cons (mkEntry_ok (F_ref24_name.ok n)) (allE_nil))))))))))))
theorem ok (n : Nat) : FnOk Tryz.prog 6 ia io (fRun (X n) n T Tryz.f6 ia io) := tree_ok mixed tabIs (phi n) Tryz.func6 (by kernel_rfl) rfl
noncomputable def en (n : Nat) : Entry := mkEntry 6 ia io (fRun (X n) n T Tryz.f6 ia io)
end F_ref24_Good
end Go.Proofs.YtfpedialdcgnhaaGreatDoor
namespace Go.Proofs.YtfpedialdcgnhaaGreatDoor
open Go Go.Va Go.Proofs
namespace F_slices_Index_int
abbrev ia : List Ai := [.dat (.slice (.int .i64)), .dat (.int .i64)]
abbrev io : List (Nat × Oi) := [(4, .dat (.int .i64))]
abbrev R : Type := DOut ia io
noncomputable def X (n : Nat) : Ctx := ⟨⟨tab, [], 0, []⟩, 19, bnOf 0 ia⟩
abbrev g1 : List Si := [.dat 0 (.slice (.int .i64)), .dat 1 (.int .i64), .dat 7 (.int .i64), .dat 8 (.int .i64)]
abbrev g2 : List Si := []
noncomputable def T : CT := (.s .o (.s (.s .o (.b (.l g1 .o))) (.r g2 .o)))
noncomputable def J1 (n : Nat) (m : Nat) : (List (Int)) × Int × Int × Int × Unit → Option R := jL (X n) n T (bodyOf Tryz.f62) (endK ia io) g1 [1, 0, 1, 0] [] m
noncomputable def J2 (n : Nat) : Unit → Option R := jR (X n) n T (bodyOf Tryz.f62) (endK ia io) g2 [1, 1] []
noncomputable def f (n : Nat) (s_ : List (Int)) (v_ : Int) : Option R := fRun (X n) n T Tryz.f62 ia io (s_, v_, ())
theorem e0 (n : Nat) (s_ : List (Int)) (v_ : Int) : f n s_ v_ =
  J1 n n (s_, v_, ((s_.length : Nat) : Int), 0, ()) := (hideF_eq _).trans (by kernel_rfl)
theorem e1 (n m : Nat) (s_ : List (Int)) (v_ : Int) (t7 : Int) (t8 : Int) : J1 n (m + 1) (s_, v_, t7, t8, ()) =
  bIf ((hide (decide (t8 < t7)))) (
    gIf (0 ≤ t8 ∧ t8 < ((s_.length : Nat) : Int)) (
      bIf ((hide (v_ == (List.getD s_ t8.toNat 0)))) (
        some (t8, ())
        ) (
        J1 n m (s_, v_, t7, (IntKind.i64.wrap (t8 + (1 : Int))), ())
        )
      )
    ) (
    J2 n (())
    ) := (hideF_eq _).trans (by kernel_rfl)
theorem e2 (n : Nat) : J2 n (()) =
  some ((-1), ()) := (hideF_eq _).trans (by kernel_rfl)
theorem phi (n : Nat) : ∀ e ∈ (X n).c.Φ, EntryOk Tryz.prog e := allE_nil
theorem ok (n : Nat) : FnOk Tryz.prog 62 ia io (fRun (X n) n T Tryz.f62 ia io) := tree_ok mixed tabIs (phi n) Tryz.func62 (by kernel_rfl) rfl
noncomputable def en (n : Nat) : Entry := mkEntry 62 ia io (fRun (X n) n T Tryz.f62 ia io)
end F_slices_Index_int
end Go.Proofs.YtfpedialdcgnhaaGreatDoor
namespace Go.Proofs.YtfpedialdcgnhaaGreatDoor
open Go Go.Va Go.Proofs
namespace F_slices_Contains_int
abbrev ia : List Ai := [.dat (.slice (.int .i64)), .dat (.int .i64)]
abbrev io : List (Nat × Oi) := [(4, .dat .bool)]
abbrev R : Type := DOut ia io
noncomputable def X (n : Nat) : Ctx := ⟨⟨tab, [F_slices_Index_int.en n], 0, []⟩, 9, bnOf 0 ia⟩
noncomputable def T : CT := .o
noncomputable def f (n : Nat) (s_ : List (Int)) (v_ : Int) : Option R := fRun (X n) n T Tryz.f31 ia io (s_, v_, ())
theorem e0 (n : Nat) (s_ : List (Int)) (v_ : Int) : f n s_ v_ =
  bnd (F_slices_Index_int.f n s_ v_) fun u1 =>
  some ((hide (decide (u1.1 ≥ (0 : Int)))), ()) := (hideF_eq _).trans (by kernel_rfl)
theorem phi (n : Nat) : ∀ e ∈ (X n).c.Φ, EntryOk Tryz.prog e := allE_cons (mkEntry_ok (F_slices_Index_int.ok n)) (allE_nil)
theorem ok (n : Nat) : FnOk Tryz.prog 31 ia io (fRun (X n) n T Tryz.f31 ia io) := tree_ok mixed tabIs (phi n) Tryz.func31 (by kernel_rfl) rfl
noncomputable def en (n : Nat) : Entry := mkEntry 31 ia io (fRun (X n) n T Tryz.f31 ia io)
end F_slices_Contains_int
end Go.Proofs.YtfpedialdcgnhaaGreatDoor
namespace Go.Proofs.YtfpedialdcgnhaaGreatDoor
open Go Go.Va Go.Proofs
namespace F_acts_Grows
abbrev ia : List Ai := [.dat T_api_Request]
abbrev io : List (Nat × Oi) := [(2, .dat .bool)]
abbrev R : Type := DOut ia io
noncomputable def X (n : Nat) : Ctx := ⟨⟨tab, [F_slices_Contains_int.en n], 0, []⟩, 7, bnOf 0 ia⟩
noncomputable def T : CT := .o
noncomputable def f (n : Nat) (r : D_api_Request) : Option R := fRun (X n) n T Tryz.f8 ia io (r, ())
theorem e0 (n : Nat) (r : D_api_Request) : f n r =
  bnd (F_slices_Contains_int.f n ([1, 3, 4, 5, 6, 13, 16, 17, 18, 20] : List (Int)) r.1) fun u1 =>
  some (u1.1, ()) := (hideF_eq _).trans (by kernel_rfl)
theorem phi (n : Nat) : ∀ e ∈ (X n).c.Φ, EntryOk Tryz.prog e := allE_cons (mkEntry_ok (F_slices_Contains_int.ok n)) (allE_nil)
theorem ok (n : Nat) : FnOk Tryz.prog 8 ia io (fRun (X n) n T Tryz.f8 ia io) := tree_ok mixed tabIs (phi n) Tryz.func8 (by kernel_rfl) rfl
noncomputable def en (n : Nat) : Entry := mkEntry 8 ia io (fRun (X n) n T Tryz.f8 ia io)
end F_acts_Grows
end Go.Proofs.YtfpedialdcgnhaaGreatDoor
namespace Go.Proofs.YtfpedialdcgnhaaGreatDoor
open Go Go.Va Go.Proofs
namespace F_acts_Time
abbrev ia : List Ai := [.dat T_api_State, .dat (.int .i64)]
abbrev io : List (Nat × Oi) := [(4, .dat (.int .i64))]
abbrev R : Type := DOut ia io
noncomputable def X (n : Nat) : Ctx := ⟨⟨tab, [F_when_Clamp.en n], 0, []⟩, 10, bnOf 0 ia⟩
noncomputable def T : CT := .o
noncomputable def f (n : Nat) (s_ : D_api_State) (now : Int) : Option R := fRun (X n) n T Tryz.f9 ia io (s_, now, ())
theorem e0 (n : Nat) (s_ : D_api_State) (now : Int) : f n s_ now =
  bnd (F_when_Clamp.f n now) fun u1 =>
  some ((maxI .i64 u1.1 s_.1), ()) := (hideF_eq _).trans (by kernel_rfl)
theorem phi (n : Nat) : ∀ e ∈ (X n).c.Φ, EntryOk Tryz.prog e := allE_cons (mkEntry_ok (F_when_Clamp.ok n)) (allE_nil)
theorem ok (n : Nat) : FnOk Tryz.prog 9 ia io (fRun (X n) n T Tryz.f9 ia io) := tree_ok mixed tabIs (phi n) Tryz.func9 (by kernel_rfl) rfl
noncomputable def en (n : Nat) : Entry := mkEntry 9 ia io (fRun (X n) n T Tryz.f9 ia io)
end F_acts_Time
end Go.Proofs.YtfpedialdcgnhaaGreatDoor
namespace Go.Proofs.YtfpedialdcgnhaaGreatDoor
open Go Go.Va Go.Proofs
namespace F_acts_Writes
abbrev ia : List Ai := [.dat T_api_Request]
abbrev io : List (Nat × Oi) := [(2, .dat .bool)]
abbrev R : Type := DOut ia io
noncomputable def X (n : Nat) : Ctx := ⟨⟨tab, [F_slices_Contains_int.en n], 0, []⟩, 7, bnOf 0 ia⟩
noncomputable def T : CT := .o
noncomputable def f (n : Nat) (r : D_api_Request) : Option R := fRun (X n) n T Tryz.f7 ia io (r, ())
theorem e0 (n : Nat) (r : D_api_Request) : f n r =
  bnd (F_slices_Contains_int.f n ([6, 17, 18] : List (Int)) r.1) fun u1 =>
  some (u1.1, ()) := (hideF_eq _).trans (by kernel_rfl)
theorem phi (n : Nat) : ∀ e ∈ (X n).c.Φ, EntryOk Tryz.prog e := allE_cons (mkEntry_ok (F_slices_Contains_int.ok n)) (allE_nil)
theorem ok (n : Nat) : FnOk Tryz.prog 7 ia io (fRun (X n) n T Tryz.f7 ia io) := tree_ok mixed tabIs (phi n) Tryz.func7 (by kernel_rfl) rfl
noncomputable def en (n : Nat) : Entry := mkEntry 7 ia io (fRun (X n) n T Tryz.f7 ia io)
end F_acts_Writes
end Go.Proofs.YtfpedialdcgnhaaGreatDoor
namespace Go.Proofs.YtfpedialdcgnhaaGreatDoor
open Go Go.Proofs
namespace Aw
set_option maxRecDepth 100000
set_option maxHeartbeats 4000000
noncomputable def ft : FuncId → Option Func
  | 4 => some Tryz.f4
  | 12 => some Tryz.f12
  | 11 => some Tryz.f11
  | 13 => some Tryz.f13
  | 9 => some Tryz.f9
  | 34 => some Tryz.f34
  | 35 => some Tryz.f35
  | 36 => some Tryz.f36
  | 5 => some Tryz.f5
  | 32 => some Tryz.f32
  | 15 => some Tryz.f15
  | 37 => some Tryz.f37
  | 38 => some Tryz.f38
  | 39 => some Tryz.f39
  | 40 => some Tryz.f40
  | 41 => some Tryz.f41
  | 63 => some Tryz.f63
  | 64 => some Tryz.f64
  | 66 => some Tryz.f66
  | 65 => some Tryz.f65
  | 67 => some Tryz.f67
  | 68 => some Tryz.f68
  | 69 => some Tryz.f69
  | 70 => some Tryz.f70
  | 71 => some Tryz.f71
  | 72 => some Tryz.f72
  | 74 => some Tryz.f74
  | 73 => some Tryz.f73
  | 75 => some Tryz.f75
  | 76 => some Tryz.f76
  | 77 => some Tryz.f77
  | 78 => some Tryz.f78
  | 14 => some Tryz.f14
  | 16 => some Tryz.f16
  | 17 => some Tryz.f17
  | 18 => some Tryz.f18
  | 79 => some Tryz.f79
  | 80 => some Tryz.f80
  | 81 => some Tryz.f81
  | 82 => some Tryz.f82
  | 83 => some Tryz.f83
  | 84 => some Tryz.f84
  | 85 => some Tryz.f85
  | 86 => some Tryz.f86
  | 87 => some Tryz.f87
  | 88 => some Tryz.f88
  | 89 => some Tryz.f89
  | 90 => some Tryz.f90
  | 91 => some Tryz.f91
  | 105 => some Tryz.f105
  | 46 => some Tryz.f46
  | 47 => some Tryz.f47
  | 48 => some Tryz.f48
  | 108 => some Tryz.f108
  | 109 => some Tryz.f109
  | 110 => some Tryz.f110
  | 111 => some Tryz.f111
  | 113 => some Tryz.f113
  | 112 => some Tryz.f112
  | 115 => some Tryz.f115
  | 114 => some Tryz.f114
  | 107 => some Tryz.f107
  | 106 => some Tryz.f106
  | 116 => some Tryz.f116
  | 117 => some Tryz.f117
  | 118 => some Tryz.f118
  | 119 => some Tryz.f119
  | 120 => some Tryz.f120
  | 121 => some Tryz.f121
  | 122 => some Tryz.f122
  | 123 => some Tryz.f123
  | 124 => some Tryz.f124
  | 125 => some Tryz.f125
  | 126 => some Tryz.f126
  | 127 => some Tryz.f127
  | 128 => some Tryz.f128
  | 129 => some Tryz.f129
  | 130 => some Tryz.f130
  | 131 => some Tryz.f131
  | 132 => some Tryz.f132
  | 133 => some Tryz.f133
  | 134 => some Tryz.f134
  | 135 => some Tryz.f135
  | 136 => some Tryz.f136
  | 137 => some Tryz.f137
  | 138 => some Tryz.f138
  | 139 => some Tryz.f139
  | 140 => some Tryz.f140
  | 42 => some Tryz.f42
  | 43 => some Tryz.f43
  | 44 => some Tryz.f44
  | 45 => some Tryz.f45
  | 49 => some Tryz.f49
  | 50 => some Tryz.f50
  | 51 => some Tryz.f51
  | 52 => some Tryz.f52
  | 53 => some Tryz.f53
  | 54 => some Tryz.f54
  | 55 => some Tryz.f55
  | 56 => some Tryz.f56
  | 57 => some Tryz.f57
  | 58 => some Tryz.f58
  | 141 => some Tryz.f141
  | 142 => some Tryz.f142
  | 143 => some Tryz.f143
  | 144 => some Tryz.f144
  | 145 => some Tryz.f145
  | 147 => some Tryz.f147
  | 146 => some Tryz.f146
  | 148 => some Tryz.f148
  | 149 => some Tryz.f149
  | 150 => some Tryz.f150
  | 151 => some Tryz.f151
  | 152 => some Tryz.f152
  | 153 => some Tryz.f153
  | 154 => some Tryz.f154
  | 155 => some Tryz.f155
  | 156 => some Tryz.f156
  | 157 => some Tryz.f157
  | 158 => some Tryz.f158
  | 159 => some Tryz.f159
  | 173 => some Tryz.f173
  | 96 => some Tryz.f96
  | 97 => some Tryz.f97
  | 99 => some Tryz.f99
  | 100 => some Tryz.f100
  | 175 => some Tryz.f175
  | 178 => some Tryz.f178
  | 179 => some Tryz.f179
  | 177 => some Tryz.f177
  | 176 => some Tryz.f176
  | 102 => some Tryz.f102
  | 182 => some Tryz.f182
  | 184 => some Tryz.f184
  | 183 => some Tryz.f183
  | 181 => some Tryz.f181
  | 180 => some Tryz.f180
  | 174 => some Tryz.f174
  | 186 => some Tryz.f186
  | 188 => some Tryz.f188
  | 187 => some Tryz.f187
  | 189 => some Tryz.f189
  | 190 => some Tryz.f190
  | 103 => some Tryz.f103
  | 185 => some Tryz.f185
  | 191 => some Tryz.f191
  | 192 => some Tryz.f192
  | 193 => some Tryz.f193
  | 194 => some Tryz.f194
  | 196 => some Tryz.f196
  | 198 => some Tryz.f198
  | 197 => some Tryz.f197
  | 199 => some Tryz.f199
  | 201 => some Tryz.f201
  | 202 => some Tryz.f202
  | 203 => some Tryz.f203
  | 204 => some Tryz.f204
  | 205 => some Tryz.f205
  | 206 => some Tryz.f206
  | 208 => some Tryz.f208
  | 209 => some Tryz.f209
  | 210 => some Tryz.f210
  | 92 => some Tryz.f92
  | 93 => some Tryz.f93
  | 94 => some Tryz.f94
  | 95 => some Tryz.f95
  | 212 => some Tryz.f212
  | 211 => some Tryz.f211
  | 213 => some Tryz.f213
  | 214 => some Tryz.f214
  | 215 => some Tryz.f215
  | 216 => some Tryz.f216
  | 217 => some Tryz.f217
  | 218 => some Tryz.f218
  | 219 => some Tryz.f219
  | 220 => some Tryz.f220
  | 221 => some Tryz.f221
  | 222 => some Tryz.f222
  | 223 => some Tryz.f223
  | 224 => some Tryz.f224
  | 226 => some Tryz.f226
  | 225 => some Tryz.f225
  | 227 => some Tryz.f227
  | 228 => some Tryz.f228
  | 229 => some Tryz.f229
  | 230 => some Tryz.f230
  | 169 => some Tryz.f169
  | 98 => some Tryz.f98
  | 170 => some Tryz.f170
  | 101 => some Tryz.f101
  | 239 => some Tryz.f239
  | 240 => some Tryz.f240
  | 172 => some Tryz.f172
  | 241 => some Tryz.f241
  | 242 => some Tryz.f242
  | 243 => some Tryz.f243
  | 244 => some Tryz.f244
  | 245 => some Tryz.f245
  | 246 => some Tryz.f246
  | 247 => some Tryz.f247
  | 249 => some Tryz.f249
  | 248 => some Tryz.f248
  | 160 => some Tryz.f160
  | 162 => some Tryz.f162
  | 161 => some Tryz.f161
  | 163 => some Tryz.f163
  | 165 => some Tryz.f165
  | 164 => some Tryz.f164
  | 167 => some Tryz.f167
  | 166 => some Tryz.f166
  | 168 => some Tryz.f168
  | 258 => some Tryz.f258
  | 259 => some Tryz.f259
  | 250 => some Tryz.f250
  | 251 => some Tryz.f251
  | 252 => some Tryz.f252
  | 253 => some Tryz.f253
  | 254 => some Tryz.f254
  | 255 => some Tryz.f255
  | 256 => some Tryz.f256
  | 257 => some Tryz.f257
  | 260 => some Tryz.f260
  | 261 => some Tryz.f261
  | 262 => some Tryz.f262
  | 263 => some Tryz.f263
  | 264 => some Tryz.f264
  | 265 => some Tryz.f265
  | 266 => some Tryz.f266
  | 171 => some Tryz.f171
  | 273 => some Tryz.f273
  | 274 => some Tryz.f274
  | 275 => some Tryz.f275
  | 231 => some Tryz.f231
  | 232 => some Tryz.f232
  | 233 => some Tryz.f233
  | 234 => some Tryz.f234
  | 237 => some Tryz.f237
  | 236 => some Tryz.f236
  | 235 => some Tryz.f235
  | 276 => some Tryz.f276
  | 277 => some Tryz.f277
  | 278 => some Tryz.f278
  | 279 => some Tryz.f279
  | 280 => some Tryz.f280
  | 281 => some Tryz.f281
  | 282 => some Tryz.f282
  | 283 => some Tryz.f283
  | 284 => some Tryz.f284
  | 285 => some Tryz.f285
  | 286 => some Tryz.f286
  | 287 => some Tryz.f287
  | 288 => some Tryz.f288
  | 289 => some Tryz.f289
  | 290 => some Tryz.f290
  | 292 => some Tryz.f292
  | 291 => some Tryz.f291
  | 293 => some Tryz.f293
  | 294 => some Tryz.f294
  | 267 => some Tryz.f267
  | 269 => some Tryz.f269
  | 272 => some Tryz.f272
  | 271 => some Tryz.f271
  | 270 => some Tryz.f270
  | 299 => some Tryz.f299
  | 300 => some Tryz.f300
  | 301 => some Tryz.f301
  | 302 => some Tryz.f302
  | 304 => some Tryz.f304
  | 303 => some Tryz.f303
  | 296 => some Tryz.f296
  | 297 => some Tryz.f297
  | 298 => some Tryz.f298
  | 306 => some Tryz.f306
  | 305 => some Tryz.f305
  | _ => none
theorem ftOk : Co.FtOk Tryz.prog ft := by
  intro g fn h
  unfold ft at h
  split at h
  · injection h with h; subst h; exact ⟨Tryz.func4, by kernel_rfl⟩
  · injection h with h; subst h; exact ⟨Tryz.func12, by kernel_rfl⟩
  · injection h with h; subst h; exact ⟨Tryz.func11, by kernel_rfl⟩
  · injection h with h; subst h; exact ⟨Tryz.func13, by kernel_rfl⟩
  · injection h with h; subst h; exact ⟨Tryz.func9, by kernel_rfl⟩
  · injection h with h; subst h; exact ⟨Tryz.func34, by kernel_rfl⟩
  · injection h with h; subst h; exact ⟨Tryz.func35, by kernel_rfl⟩
  · injection h with h; subst h; exact ⟨Tryz.func36, by kernel_rfl⟩
  · injection h with h; subst h; exact ⟨Tryz.func5, by kernel_rfl⟩
  · injection h with h; subst h; exact ⟨Tryz.func32, by kernel_rfl⟩
  · injection h with h; subst h; exact ⟨Tryz.func15, by kernel_rfl⟩
  · injection h with h; subst h; exact ⟨Tryz.func37, by kernel_rfl⟩
  · injection h with h; subst h; exact ⟨Tryz.func38, by kernel_rfl⟩
  · injection h with h; subst h; exact ⟨Tryz.func39, by kernel_rfl⟩
  · injection h with h; subst h; exact ⟨Tryz.func40, by kernel_rfl⟩
  · injection h with h; subst h; exact ⟨Tryz.func41, by kernel_rfl⟩
  · injection h with h; subst h; exact ⟨Tryz.func63, by kernel_rfl⟩
  · injection h with h; subst h; exact ⟨Tryz.func64, by kernel_rfl⟩
  · injection h with h; subst h; exact ⟨Tryz.func66, by kernel_rfl⟩
  · injection h with h; subst h; exact ⟨Tryz.func65, by kernel_rfl⟩
  · injection h with h; subst h; exact ⟨Tryz.func67, by kernel_rfl⟩
  · injection h with h; subst h; exact ⟨Tryz.func68, by kernel_rfl⟩
  · injection h with h; subst h; exact ⟨Tryz.func69, by kernel_rfl⟩
  · injection h with h; subst h; exact ⟨Tryz.func70, by kernel_rfl⟩
  · injection h with h; subst h; exact ⟨Tryz.func71, by kernel_rfl⟩
  · injection h with h; subst h; exact ⟨Tryz.func72, by kernel_rfl⟩
  · injection h with h; subst h; exact ⟨Tryz.func74, by kernel_rfl⟩
  · injection h with h; subst h; exact ⟨Tryz.func73, by kernel_rfl⟩
  · injection h with h; subst h; exact ⟨Tryz.func75, by kernel_rfl⟩
  · injection h with h; subst h; exact ⟨Tryz.func76, by kernel_rfl⟩
  · injection h with h; subst h; exact ⟨Tryz.func77, by kernel_rfl⟩
  · injection h with h; subst h; exact ⟨Tryz.func78, by kernel_rfl⟩
  · injection h with h; subst h; exact ⟨Tryz.func14, by kernel_rfl⟩
  · injection h with h; subst h; exact ⟨Tryz.func16, by kernel_rfl⟩
  · injection h with h; subst h; exact ⟨Tryz.func17, by kernel_rfl⟩
  · injection h with h; subst h; exact ⟨Tryz.func18, by kernel_rfl⟩
  · injection h with h; subst h; exact ⟨Tryz.func79, by kernel_rfl⟩
  · injection h with h; subst h; exact ⟨Tryz.func80, by kernel_rfl⟩
  · injection h with h; subst h; exact ⟨Tryz.func81, by kernel_rfl⟩
  · injection h with h; subst h; exact ⟨Tryz.func82, by kernel_rfl⟩
  · injection h with h; subst h; exact ⟨Tryz.func83, by kernel_rfl⟩
  · injection h with h; subst h; exact ⟨Tryz.func84, by kernel_rfl⟩
  · injection h with h; subst h; exact ⟨Tryz.func85, by kernel_rfl⟩
  · injection h with h; subst h; exact ⟨Tryz.func86, by kernel_rfl⟩
  · injection h with h; subst h; exact ⟨Tryz.func87, by kernel_rfl⟩
  · injection h with h; subst h; exact ⟨Tryz.func88, by kernel_rfl⟩
  · injection h with h; subst h; exact ⟨Tryz.func89, by kernel_rfl⟩
  · injection h with h; subst h; exact ⟨Tryz.func90, by kernel_rfl⟩
  · injection h with h; subst h; exact ⟨Tryz.func91, by kernel_rfl⟩
  · injection h with h; subst h; exact ⟨Tryz.func105, by kernel_rfl⟩
  · injection h with h; subst h; exact ⟨Tryz.func46, by kernel_rfl⟩
  · injection h with h; subst h; exact ⟨Tryz.func47, by kernel_rfl⟩
  · injection h with h; subst h; exact ⟨Tryz.func48, by kernel_rfl⟩
  · injection h with h; subst h; exact ⟨Tryz.func108, by kernel_rfl⟩
  · injection h with h; subst h; exact ⟨Tryz.func109, by kernel_rfl⟩
  · injection h with h; subst h; exact ⟨Tryz.func110, by kernel_rfl⟩
  · injection h with h; subst h; exact ⟨Tryz.func111, by kernel_rfl⟩
  · injection h with h; subst h; exact ⟨Tryz.func113, by kernel_rfl⟩
  · injection h with h; subst h; exact ⟨Tryz.func112, by kernel_rfl⟩
  · injection h with h; subst h; exact ⟨Tryz.func115, by kernel_rfl⟩
  · injection h with h; subst h; exact ⟨Tryz.func114, by kernel_rfl⟩
  · injection h with h; subst h; exact ⟨Tryz.func107, by kernel_rfl⟩
  · injection h with h; subst h; exact ⟨Tryz.func106, by kernel_rfl⟩
  · injection h with h; subst h; exact ⟨Tryz.func116, by kernel_rfl⟩
  · injection h with h; subst h; exact ⟨Tryz.func117, by kernel_rfl⟩
  · injection h with h; subst h; exact ⟨Tryz.func118, by kernel_rfl⟩
  · injection h with h; subst h; exact ⟨Tryz.func119, by kernel_rfl⟩
  · injection h with h; subst h; exact ⟨Tryz.func120, by kernel_rfl⟩
  · injection h with h; subst h; exact ⟨Tryz.func121, by kernel_rfl⟩
  · injection h with h; subst h; exact ⟨Tryz.func122, by kernel_rfl⟩
  · injection h with h; subst h; exact ⟨Tryz.func123, by kernel_rfl⟩
  · injection h with h; subst h; exact ⟨Tryz.func124, by kernel_rfl⟩
  · injection h with h; subst h; exact ⟨Tryz.func125, by kernel_rfl⟩
  · injection h with h; subst h; exact ⟨Tryz.func126, by kernel_rfl⟩
  · injection h with h; subst h; exact ⟨Tryz.func127, by kernel_rfl⟩
  · injection h with h; subst h; exact ⟨Tryz.func128, by kernel_rfl⟩
  · injection h with h; subst h; exact ⟨Tryz.func129, by kernel_rfl⟩
  · injection h with h; subst h; exact ⟨Tryz.func130, by kernel_rfl⟩
  · injection h with h; subst h; exact ⟨Tryz.func131, by kernel_rfl⟩
  · injection h with h; subst h; exact ⟨Tryz.func132, by kernel_rfl⟩
  · injection h with h; subst h; exact ⟨Tryz.func133, by kernel_rfl⟩
  · injection h with h; subst h; exact ⟨Tryz.func134, by kernel_rfl⟩
  · injection h with h; subst h; exact ⟨Tryz.func135, by kernel_rfl⟩
  · injection h with h; subst h; exact ⟨Tryz.func136, by kernel_rfl⟩
  · injection h with h; subst h; exact ⟨Tryz.func137, by kernel_rfl⟩
  · injection h with h; subst h; exact ⟨Tryz.func138, by kernel_rfl⟩
  · injection h with h; subst h; exact ⟨Tryz.func139, by kernel_rfl⟩
  · injection h with h; subst h; exact ⟨Tryz.func140, by kernel_rfl⟩
  · injection h with h; subst h; exact ⟨Tryz.func42, by kernel_rfl⟩
  · injection h with h; subst h; exact ⟨Tryz.func43, by kernel_rfl⟩
  · injection h with h; subst h; exact ⟨Tryz.func44, by kernel_rfl⟩
  · injection h with h; subst h; exact ⟨Tryz.func45, by kernel_rfl⟩
  · injection h with h; subst h; exact ⟨Tryz.func49, by kernel_rfl⟩
  · injection h with h; subst h; exact ⟨Tryz.func50, by kernel_rfl⟩
  · injection h with h; subst h; exact ⟨Tryz.func51, by kernel_rfl⟩
  · injection h with h; subst h; exact ⟨Tryz.func52, by kernel_rfl⟩
  · injection h with h; subst h; exact ⟨Tryz.func53, by kernel_rfl⟩
  · injection h with h; subst h; exact ⟨Tryz.func54, by kernel_rfl⟩
  · injection h with h; subst h; exact ⟨Tryz.func55, by kernel_rfl⟩
  · injection h with h; subst h; exact ⟨Tryz.func56, by kernel_rfl⟩
  · injection h with h; subst h; exact ⟨Tryz.func57, by kernel_rfl⟩
  · injection h with h; subst h; exact ⟨Tryz.func58, by kernel_rfl⟩
  · injection h with h; subst h; exact ⟨Tryz.func141, by kernel_rfl⟩
  · injection h with h; subst h; exact ⟨Tryz.func142, by kernel_rfl⟩
  · injection h with h; subst h; exact ⟨Tryz.func143, by kernel_rfl⟩
  · injection h with h; subst h; exact ⟨Tryz.func144, by kernel_rfl⟩
  · injection h with h; subst h; exact ⟨Tryz.func145, by kernel_rfl⟩
  · injection h with h; subst h; exact ⟨Tryz.func147, by kernel_rfl⟩
  · injection h with h; subst h; exact ⟨Tryz.func146, by kernel_rfl⟩
  · injection h with h; subst h; exact ⟨Tryz.func148, by kernel_rfl⟩
  · injection h with h; subst h; exact ⟨Tryz.func149, by kernel_rfl⟩
  · injection h with h; subst h; exact ⟨Tryz.func150, by kernel_rfl⟩
  · injection h with h; subst h; exact ⟨Tryz.func151, by kernel_rfl⟩
  · injection h with h; subst h; exact ⟨Tryz.func152, by kernel_rfl⟩
  · injection h with h; subst h; exact ⟨Tryz.func153, by kernel_rfl⟩
  · injection h with h; subst h; exact ⟨Tryz.func154, by kernel_rfl⟩
  · injection h with h; subst h; exact ⟨Tryz.func155, by kernel_rfl⟩
  · injection h with h; subst h; exact ⟨Tryz.func156, by kernel_rfl⟩
  · injection h with h; subst h; exact ⟨Tryz.func157, by kernel_rfl⟩
  · injection h with h; subst h; exact ⟨Tryz.func158, by kernel_rfl⟩
  · injection h with h; subst h; exact ⟨Tryz.func159, by kernel_rfl⟩
  · injection h with h; subst h; exact ⟨Tryz.func173, by kernel_rfl⟩
  · injection h with h; subst h; exact ⟨Tryz.func96, by kernel_rfl⟩
  · injection h with h; subst h; exact ⟨Tryz.func97, by kernel_rfl⟩
  · injection h with h; subst h; exact ⟨Tryz.func99, by kernel_rfl⟩
  · injection h with h; subst h; exact ⟨Tryz.func100, by kernel_rfl⟩
  · injection h with h; subst h; exact ⟨Tryz.func175, by kernel_rfl⟩
  · injection h with h; subst h; exact ⟨Tryz.func178, by kernel_rfl⟩
  · injection h with h; subst h; exact ⟨Tryz.func179, by kernel_rfl⟩
  · injection h with h; subst h; exact ⟨Tryz.func177, by kernel_rfl⟩
  · injection h with h; subst h; exact ⟨Tryz.func176, by kernel_rfl⟩
  · injection h with h; subst h; exact ⟨Tryz.func102, by kernel_rfl⟩
  · injection h with h; subst h; exact ⟨Tryz.func182, by kernel_rfl⟩
  · injection h with h; subst h; exact ⟨Tryz.func184, by kernel_rfl⟩
  · injection h with h; subst h; exact ⟨Tryz.func183, by kernel_rfl⟩
  · injection h with h; subst h; exact ⟨Tryz.func181, by kernel_rfl⟩
  · injection h with h; subst h; exact ⟨Tryz.func180, by kernel_rfl⟩
  · injection h with h; subst h; exact ⟨Tryz.func174, by kernel_rfl⟩
  · injection h with h; subst h; exact ⟨Tryz.func186, by kernel_rfl⟩
  · injection h with h; subst h; exact ⟨Tryz.func188, by kernel_rfl⟩
  · injection h with h; subst h; exact ⟨Tryz.func187, by kernel_rfl⟩
  · injection h with h; subst h; exact ⟨Tryz.func189, by kernel_rfl⟩
  · injection h with h; subst h; exact ⟨Tryz.func190, by kernel_rfl⟩
  · injection h with h; subst h; exact ⟨Tryz.func103, by kernel_rfl⟩
  · injection h with h; subst h; exact ⟨Tryz.func185, by kernel_rfl⟩
  · injection h with h; subst h; exact ⟨Tryz.func191, by kernel_rfl⟩
  · injection h with h; subst h; exact ⟨Tryz.func192, by kernel_rfl⟩
  · injection h with h; subst h; exact ⟨Tryz.func193, by kernel_rfl⟩
  · injection h with h; subst h; exact ⟨Tryz.func194, by kernel_rfl⟩
  · injection h with h; subst h; exact ⟨Tryz.func196, by kernel_rfl⟩
  · injection h with h; subst h; exact ⟨Tryz.func198, by kernel_rfl⟩
  · injection h with h; subst h; exact ⟨Tryz.func197, by kernel_rfl⟩
  · injection h with h; subst h; exact ⟨Tryz.func199, by kernel_rfl⟩
  · injection h with h; subst h; exact ⟨Tryz.func201, by kernel_rfl⟩
  · injection h with h; subst h; exact ⟨Tryz.func202, by kernel_rfl⟩
  · injection h with h; subst h; exact ⟨Tryz.func203, by kernel_rfl⟩
  · injection h with h; subst h; exact ⟨Tryz.func204, by kernel_rfl⟩
  · injection h with h; subst h; exact ⟨Tryz.func205, by kernel_rfl⟩
  · injection h with h; subst h; exact ⟨Tryz.func206, by kernel_rfl⟩
  · injection h with h; subst h; exact ⟨Tryz.func208, by kernel_rfl⟩
  · injection h with h; subst h; exact ⟨Tryz.func209, by kernel_rfl⟩
  · injection h with h; subst h; exact ⟨Tryz.func210, by kernel_rfl⟩
  · injection h with h; subst h; exact ⟨Tryz.func92, by kernel_rfl⟩
  · injection h with h; subst h; exact ⟨Tryz.func93, by kernel_rfl⟩
  · injection h with h; subst h; exact ⟨Tryz.func94, by kernel_rfl⟩
  · injection h with h; subst h; exact ⟨Tryz.func95, by kernel_rfl⟩
  · injection h with h; subst h; exact ⟨Tryz.func212, by kernel_rfl⟩
  · injection h with h; subst h; exact ⟨Tryz.func211, by kernel_rfl⟩
  · injection h with h; subst h; exact ⟨Tryz.func213, by kernel_rfl⟩
  · injection h with h; subst h; exact ⟨Tryz.func214, by kernel_rfl⟩
  · injection h with h; subst h; exact ⟨Tryz.func215, by kernel_rfl⟩
  · injection h with h; subst h; exact ⟨Tryz.func216, by kernel_rfl⟩
  · injection h with h; subst h; exact ⟨Tryz.func217, by kernel_rfl⟩
  · injection h with h; subst h; exact ⟨Tryz.func218, by kernel_rfl⟩
  · injection h with h; subst h; exact ⟨Tryz.func219, by kernel_rfl⟩
  · injection h with h; subst h; exact ⟨Tryz.func220, by kernel_rfl⟩
  · injection h with h; subst h; exact ⟨Tryz.func221, by kernel_rfl⟩
  · injection h with h; subst h; exact ⟨Tryz.func222, by kernel_rfl⟩
  · injection h with h; subst h; exact ⟨Tryz.func223, by kernel_rfl⟩
  · injection h with h; subst h; exact ⟨Tryz.func224, by kernel_rfl⟩
  · injection h with h; subst h; exact ⟨Tryz.func226, by kernel_rfl⟩
  · injection h with h; subst h; exact ⟨Tryz.func225, by kernel_rfl⟩
  · injection h with h; subst h; exact ⟨Tryz.func227, by kernel_rfl⟩
  · injection h with h; subst h; exact ⟨Tryz.func228, by kernel_rfl⟩
  · injection h with h; subst h; exact ⟨Tryz.func229, by kernel_rfl⟩
  · injection h with h; subst h; exact ⟨Tryz.func230, by kernel_rfl⟩
  · injection h with h; subst h; exact ⟨Tryz.func169, by kernel_rfl⟩
  · injection h with h; subst h; exact ⟨Tryz.func98, by kernel_rfl⟩
  · injection h with h; subst h; exact ⟨Tryz.func170, by kernel_rfl⟩
  · injection h with h; subst h; exact ⟨Tryz.func101, by kernel_rfl⟩
  · injection h with h; subst h; exact ⟨Tryz.func239, by kernel_rfl⟩
  · injection h with h; subst h; exact ⟨Tryz.func240, by kernel_rfl⟩
  · injection h with h; subst h; exact ⟨Tryz.func172, by kernel_rfl⟩
  · injection h with h; subst h; exact ⟨Tryz.func241, by kernel_rfl⟩
  · injection h with h; subst h; exact ⟨Tryz.func242, by kernel_rfl⟩
  · injection h with h; subst h; exact ⟨Tryz.func243, by kernel_rfl⟩
  · injection h with h; subst h; exact ⟨Tryz.func244, by kernel_rfl⟩
  · injection h with h; subst h; exact ⟨Tryz.func245, by kernel_rfl⟩
  · injection h with h; subst h; exact ⟨Tryz.func246, by kernel_rfl⟩
  · injection h with h; subst h; exact ⟨Tryz.func247, by kernel_rfl⟩
  · injection h with h; subst h; exact ⟨Tryz.func249, by kernel_rfl⟩
  · injection h with h; subst h; exact ⟨Tryz.func248, by kernel_rfl⟩
  · injection h with h; subst h; exact ⟨Tryz.func160, by kernel_rfl⟩
  · injection h with h; subst h; exact ⟨Tryz.func162, by kernel_rfl⟩
  · injection h with h; subst h; exact ⟨Tryz.func161, by kernel_rfl⟩
  · injection h with h; subst h; exact ⟨Tryz.func163, by kernel_rfl⟩
  · injection h with h; subst h; exact ⟨Tryz.func165, by kernel_rfl⟩
  · injection h with h; subst h; exact ⟨Tryz.func164, by kernel_rfl⟩
  · injection h with h; subst h; exact ⟨Tryz.func167, by kernel_rfl⟩
  · injection h with h; subst h; exact ⟨Tryz.func166, by kernel_rfl⟩
  · injection h with h; subst h; exact ⟨Tryz.func168, by kernel_rfl⟩
  · injection h with h; subst h; exact ⟨Tryz.func258, by kernel_rfl⟩
  · injection h with h; subst h; exact ⟨Tryz.func259, by kernel_rfl⟩
  · injection h with h; subst h; exact ⟨Tryz.func250, by kernel_rfl⟩
  · injection h with h; subst h; exact ⟨Tryz.func251, by kernel_rfl⟩
  · injection h with h; subst h; exact ⟨Tryz.func252, by kernel_rfl⟩
  · injection h with h; subst h; exact ⟨Tryz.func253, by kernel_rfl⟩
  · injection h with h; subst h; exact ⟨Tryz.func254, by kernel_rfl⟩
  · injection h with h; subst h; exact ⟨Tryz.func255, by kernel_rfl⟩
  · injection h with h; subst h; exact ⟨Tryz.func256, by kernel_rfl⟩
  · injection h with h; subst h; exact ⟨Tryz.func257, by kernel_rfl⟩
  · injection h with h; subst h; exact ⟨Tryz.func260, by kernel_rfl⟩
  · injection h with h; subst h; exact ⟨Tryz.func261, by kernel_rfl⟩
  · injection h with h; subst h; exact ⟨Tryz.func262, by kernel_rfl⟩
  · injection h with h; subst h; exact ⟨Tryz.func263, by kernel_rfl⟩
  · injection h with h; subst h; exact ⟨Tryz.func264, by kernel_rfl⟩
  · injection h with h; subst h; exact ⟨Tryz.func265, by kernel_rfl⟩
  · injection h with h; subst h; exact ⟨Tryz.func266, by kernel_rfl⟩
  · injection h with h; subst h; exact ⟨Tryz.func171, by kernel_rfl⟩
  · injection h with h; subst h; exact ⟨Tryz.func273, by kernel_rfl⟩
  · injection h with h; subst h; exact ⟨Tryz.func274, by kernel_rfl⟩
  · injection h with h; subst h; exact ⟨Tryz.func275, by kernel_rfl⟩
  · injection h with h; subst h; exact ⟨Tryz.func231, by kernel_rfl⟩
  · injection h with h; subst h; exact ⟨Tryz.func232, by kernel_rfl⟩
  · injection h with h; subst h; exact ⟨Tryz.func233, by kernel_rfl⟩
  · injection h with h; subst h; exact ⟨Tryz.func234, by kernel_rfl⟩
  · injection h with h; subst h; exact ⟨Tryz.func237, by kernel_rfl⟩
  · injection h with h; subst h; exact ⟨Tryz.func236, by kernel_rfl⟩
  · injection h with h; subst h; exact ⟨Tryz.func235, by kernel_rfl⟩
  · injection h with h; subst h; exact ⟨Tryz.func276, by kernel_rfl⟩
  · injection h with h; subst h; exact ⟨Tryz.func277, by kernel_rfl⟩
  · injection h with h; subst h; exact ⟨Tryz.func278, by kernel_rfl⟩
  · injection h with h; subst h; exact ⟨Tryz.func279, by kernel_rfl⟩
  · injection h with h; subst h; exact ⟨Tryz.func280, by kernel_rfl⟩
  · injection h with h; subst h; exact ⟨Tryz.func281, by kernel_rfl⟩
  · injection h with h; subst h; exact ⟨Tryz.func282, by kernel_rfl⟩
  · injection h with h; subst h; exact ⟨Tryz.func283, by kernel_rfl⟩
  · injection h with h; subst h; exact ⟨Tryz.func284, by kernel_rfl⟩
  · injection h with h; subst h; exact ⟨Tryz.func285, by kernel_rfl⟩
  · injection h with h; subst h; exact ⟨Tryz.func286, by kernel_rfl⟩
  · injection h with h; subst h; exact ⟨Tryz.func287, by kernel_rfl⟩
  · injection h with h; subst h; exact ⟨Tryz.func288, by kernel_rfl⟩
  · injection h with h; subst h; exact ⟨Tryz.func289, by kernel_rfl⟩
  · injection h with h; subst h; exact ⟨Tryz.func290, by kernel_rfl⟩
  · injection h with h; subst h; exact ⟨Tryz.func292, by kernel_rfl⟩
  · injection h with h; subst h; exact ⟨Tryz.func291, by kernel_rfl⟩
  · injection h with h; subst h; exact ⟨Tryz.func293, by kernel_rfl⟩
  · injection h with h; subst h; exact ⟨Tryz.func294, by kernel_rfl⟩
  · injection h with h; subst h; exact ⟨Tryz.func267, by kernel_rfl⟩
  · injection h with h; subst h; exact ⟨Tryz.func269, by kernel_rfl⟩
  · injection h with h; subst h; exact ⟨Tryz.func272, by kernel_rfl⟩
  · injection h with h; subst h; exact ⟨Tryz.func271, by kernel_rfl⟩
  · injection h with h; subst h; exact ⟨Tryz.func270, by kernel_rfl⟩
  · injection h with h; subst h; exact ⟨Tryz.func299, by kernel_rfl⟩
  · injection h with h; subst h; exact ⟨Tryz.func300, by kernel_rfl⟩
  · injection h with h; subst h; exact ⟨Tryz.func301, by kernel_rfl⟩
  · injection h with h; subst h; exact ⟨Tryz.func302, by kernel_rfl⟩
  · injection h with h; subst h; exact ⟨Tryz.func304, by kernel_rfl⟩
  · injection h with h; subst h; exact ⟨Tryz.func303, by kernel_rfl⟩
  · injection h with h; subst h; exact ⟨Tryz.func296, by kernel_rfl⟩
  · injection h with h; subst h; exact ⟨Tryz.func297, by kernel_rfl⟩
  · injection h with h; subst h; exact ⟨Tryz.func298, by kernel_rfl⟩
  · injection h with h; subst h; exact ⟨Tryz.func306, by kernel_rfl⟩
  · injection h with h; subst h; exact ⟨Tryz.func305, by kernel_rfl⟩
  · exact nomatch h
noncomputable def xt : FuncId → Option (Array Value → Sem Value)
  | 238 => some Extern.BytealgIndexByte.indexByte
  | 268 => some Extern.BytealgCount.count
  | _ => none
theorem xtOk : Co.XtOk Tryz.prog xt := by
  intro g e h
  unfold xt at h
  split at h
  · injection h with h; subst h; exact ⟨Tryz.f238, Tryz.func238, by kernel_rfl, by kernel_rfl, by kernel_rfl, by kernel_rfl⟩
  · injection h with h; subst h; exact ⟨Tryz.f268, Tryz.func268, by kernel_rfl, by kernel_rfl, by kernel_rfl, by kernel_rfl⟩
  · exact nomatch h
end Aw
end Go.Proofs.YtfpedialdcgnhaaGreatDoor
namespace Go.Proofs.YtfpedialdcgnhaaGreatDoor
open Go Go.Proofs
namespace Aw
theorem runs (w : World) : Calls Tryz.prog 4 #[] w fun en w' => en = .returned (.bool true) ∧ Va.Grow w w' :=
  Co.run_says mixed tabIs xtOk ftOk (N := 1000) (d := 60) (by kernel_rfl) w
end Aw
end Go.Proofs.YtfpedialdcgnhaaGreatDoor
namespace Go.Proofs.YtfpedialdcgnhaaGreatDoor
open Go Go.Va Go.Proofs
namespace F_law24_awake
abbrev ia : List Ai := []
abbrev io : List (Nat × Oi) := [(0, .dat .bool)]
noncomputable def f : Option (DOut ia io) := some (true, ())
theorem ok : FnOk Tryz.prog 4 ia io (fun _ => f) := by
  refine leaf_ok ⟨Tryz.f4, Tryz.func4, by kernel_rfl, by kernel_rfl⟩ rfl (fun _ => rfl) (fun _ => rfl) (fun v u h E w vals hgl hc => ?_)
  have hc : vals = [] := hc
  subst hc
  unfold f at h
  injection h with h
  subst h
  refine (Aw.runs w).mono ?_
  rintro en w' ⟨rfl, hb⟩
  exact ⟨_, rfl, hb, fun E => V_bool.2 rfl⟩
noncomputable def en : Entry := mkEntry 4 ia io (fun _ => f)
end F_law24_awake
end Go.Proofs.YtfpedialdcgnhaaGreatDoor
namespace Go.Proofs.YtfpedialdcgnhaaGreatDoor
open Go Go.Va Go.Proofs
namespace F_ref24_Time
abbrev ia : List Ai := [.dat T_api_State, .dat (.int .i64)]
abbrev io : List (Nat × Oi) := [(4, .dat (.int .i64))]
abbrev R : Type := DOut ia io
noncomputable def X (n : Nat) : Ctx := ⟨⟨tab, [F_ref05_Clamp.en n], 0, []⟩, 15, bnOf 0 ia⟩
noncomputable def T : CT := .o
noncomputable def f (n : Nat) (s_ : D_api_State) (now : Int) : Option R := fRun (X n) n T Tryz.f10 ia io (s_, now, ())
theorem e0 (n : Nat) (s_ : D_api_State) (now : Int) : f n s_ now =
  bnd (F_ref05_Clamp.f n now) fun u1 =>
  bIf ((hide (decide (u1.1 < s_.1)))) (
    some (s_.1, ())
    ) (
    some (u1.1, ())
    ) := (hideF_eq _).trans (by kernel_rfl)
theorem phi (n : Nat) : ∀ e ∈ (X n).c.Φ, EntryOk Tryz.prog e := allE_cons (mkEntry_ok (F_ref05_Clamp.ok n)) (allE_nil)
theorem ok (n : Nat) : FnOk Tryz.prog 10 ia io (fRun (X n) n T Tryz.f10 ia io) := tree_ok mixed tabIs (phi n) Tryz.func10 (by kernel_rfl) rfl
noncomputable def en (n : Nat) : Entry := mkEntry 10 ia io (fRun (X n) n T Tryz.f10 ia io)
end F_ref24_Time
end Go.Proofs.YtfpedialdcgnhaaGreatDoor
namespace Go.Proofs.YtfpedialdcgnhaaGreatDoor
open Go Go.Va Go.Proofs
namespace F_law24_ActsGood
abbrev ia : List Ai := [.dat T_api_Request, .dat T_api_State, .dat (.int .i64)]
abbrev io : List (Nat × Oi) := [(6, .dat .bool)]
abbrev R : Type := DOut ia io
noncomputable def X (n : Nat) : Ctx := ⟨⟨tab, [F_law24_awake.en, F_acts_Good.en n, F_ref24_Good.en n, F_acts_Writes.en n, F_acts_Grows.en n, F_acts_Time.en n, F_ref24_Time.en n], 0, []⟩, 87, bnOf 0 ia⟩
abbrev g1 : List Si := [.dat 2 (.int .i64), .ref 3 3 T_api_Request, .ref 4 4 T_api_State, .dat 7 .bool, .box 3 (.d T_api_Request), .box 4 (.d T_api_State)]
abbrev g2 : List Si := [.dat 2 (.int .i64), .ref 3 3 T_api_Request, .ref 4 4 T_api_State, .dat 7 .bool, .dat 8 .bool, .box 3 (.d T_api_Request), .box 4 (.d T_api_State)]
noncomputable def T : CT := (.s .o (.s .o (.r g1 (.s .o (.r g2 .o)))))
noncomputable def J1 (n : Nat) : Int × Bool × D_api_Request × D_api_State × Unit → Option R := jR (X n) n T (bodyOf Tryz.f3) (endK ia io) g1 [1, 1] []
noncomputable def J2 (n : Nat) : Int × Bool × Bool × D_api_Request × D_api_State × Unit → Option R := jR (X n) n T (bodyOf Tryz.f3) (endK ia io) g2 [1, 1, 1] []
noncomputable def f (n : Nat) (r : D_api_Request) (s_ : D_api_State) (now : Int) : Option R := fRun (X n) n T Tryz.f3 ia io (r, s_, now, ())
theorem e0 (n : Nat) (r : D_api_Request) (s_ : D_api_State) (now : Int) : f n r s_ now =
  bIf ((hide (r.1 == (6 : Int)))) (
    J1 n (now, true, r, s_, ())
    ) (
    bIf ((hide (r.1 == (17 : Int)))) (
      J1 n (now, true, r, s_, ())
      ) (
      J1 n (now, (hide (r.1 == (18 : Int))), r, s_, ())
      )
    ) := (hideF_eq _).trans (by kernel_rfl)
theorem e1 (n : Nat) (now : Int) (writes : Bool) (r : D_api_Request) (s_ : D_api_State) : J1 n (now, writes, r, s_, ()) =
  bIf (writes) (
    J2 n (now, writes, true, r, s_, ())
    ) (
    bIf ((hide (r.1 == (1 : Int)))) (
      J2 n (now, writes, true, r, s_, ())
      ) (
      bIf ((hide (r.1 == (3 : Int)))) (
        J2 n (now, writes, true, r, s_, ())
        ) (
        bIf ((hide (r.1 == (4 : Int)))) (
          J2 n (now, writes, true, r, s_, ())
          ) (
          bIf ((hide (r.1 == (5 : Int)))) (
            J2 n (now, writes, true, r, s_, ())
            ) (
            bIf ((hide (r.1 == (13 : Int)))) (
              J2 n (now, writes, true, r, s_, ())
              ) (
              bIf ((hide (r.1 == (16 : Int)))) (
                J2 n (now, writes, true, r, s_, ())
                ) (
                J2 n (now, writes, (hide (r.1 == (20 : Int))), r, s_, ())
                )
              )
            )
          )
        )
      )
    ) := (hideF_eq _).trans (by kernel_rfl)
theorem e2 (n : Nat) (now : Int) (writes : Bool) (grows : Bool) (r : D_api_Request) (s_ : D_api_State) : J2 n (now, writes, grows, r, s_, ()) =
  bnd (F_law24_awake.f) fun u1 =>
  bIf (u1.1) (
    bnd (F_acts_Good.f n r) fun u2 =>
    bnd (F_ref24_Good.f n r) fun u3 =>
    bIf ((hide (u2.1 == u3.1))) (
      bnd (F_acts_Writes.f n r) fun u4 =>
      bIf ((hide (u4.1 == writes))) (
        bnd (F_acts_Grows.f n r) fun u5 =>
        bIf ((hide (u5.1 == grows))) (
          bnd (F_acts_Time.f n s_ now) fun u6 =>
          bnd (F_ref24_Time.f n s_ now) fun u7 =>
          some ((hide (u6.1 == u7.1)), ())
          ) (
          some (false, ())
          )
        ) (
        some (false, ())
        )
      ) (
      some (false, ())
      )
    ) (
    some (false, ())
    ) := (hideF_eq _).trans (by kernel_rfl)
theorem phi (n : Nat) : ∀ e ∈ (X n).c.Φ, EntryOk Tryz.prog e := allE_cons (mkEntry_ok (F_law24_awake.ok)) (allE_cons (mkEntry_ok (F_acts_Good.ok n)) (allE_cons (mkEntry_ok (F_ref24_Good.ok n)) (allE_cons (mkEntry_ok (F_acts_Writes.ok n)) (allE_cons (mkEntry_ok (F_acts_Grows.ok n)) (allE_cons (mkEntry_ok (F_acts_Time.ok n)) (allE_cons (mkEntry_ok (F_ref24_Time.ok n)) (allE_nil)))))))
theorem ok (n : Nat) : FnOk Tryz.prog 3 ia io (fRun (X n) n T Tryz.f3 ia io) := tree_ok mixed tabIs (phi n) Tryz.func3 (by kernel_rfl) rfl
noncomputable def en (n : Nat) : Entry := mkEntry 3 ia io (fRun (X n) n T Tryz.f3 ia io)
end F_law24_ActsGood
end Go.Proofs.YtfpedialdcgnhaaGreatDoor
