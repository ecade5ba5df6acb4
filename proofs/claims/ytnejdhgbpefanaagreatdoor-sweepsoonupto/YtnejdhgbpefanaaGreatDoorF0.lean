/-
  The table of types, and the simplest facts by a run with known values.
-/
import Derived.Test.YtnejdhgbpefanaaGreatDoorVaTree
import Derived.Test.YtnejdhgbpefanaaGreatDoorChecked
import Derived.Lib.LaidU8T
import Derived.Test.YtnejdhgbpefanaaGreatDoorCoEnd
set_option linter.unusedVariables false
set_option linter.unusedSimpArgs false
namespace Go.Proofs.YtnejdhgbpefanaaGreatDoor
open Go Go.Va Go.Proofs
abbrev T_api_Tag:Ty:=(.pair .str (.pair .str .unit))
abbrev D_api_Tag:Type:=ByteArray×ByteArray×Unit
abbrev T_runtime_errorAddressString:Ty:=(.pair .str (.pair (.int .u64) .unit))
abbrev T_unicode_utf8_acceptRange:Ty:=(.pair (.int .u8) (.pair (.int .u8) .unit))
abbrev T_glob_piece:Ty:=(.pair (.int .i64) (.pair (.int .u8) .unit))
abbrev D_glob_piece:Type:=Int×Int×Unit
abbrev T_api_Default:Ty:=(.pair (.int .i64) (.pair (.int .i64) .unit))
abbrev D_api_Default:Type:=Int×Int×Unit
abbrev T_api_Spot:Ty:=(.pair .str T_runtime_errorAddressString)
abbrev T_api_Lock:Ty:=(.pair (.int .i64) (.pair (.int .i64) (.pair .bool .unit)))
abbrev D_api_Lock:Type:=Int×Int×Bool×Unit
abbrev T_api_Grant:Ty:=(.pair .bool (.pair .str T_api_Tag))
abbrev D_api_Grant:Type:=Bool×ByteArray×ByteArray×ByteArray×Unit
abbrev T_count_says:Ty:=(.pair (.int .u64) (.pair (.int .i64) (.pair (.arr 32 (.int .u8)) .unit)))
abbrev T_api_Part:Ty:=(.pair (.int .i64) (.pair (.int .i64) (.pair (.int .u64) (.pair (.arr 32 (.int .u8)) .unit))))
abbrev D_api_Part:Type:=Int×Int×Int×(List (Int))×Unit
abbrev T_count_Use:Ty:=(.pair (.int .u64) (.pair (.int .i64) (.pair (.int .i64) (.pair (.arr 32 (.int .u8)) .unit))))
abbrev T_rules_event:Ty:=(.pair (.int .i64) (.pair (.int .u64) (.pair T_api_Lock .unit)))
abbrev D_rules_event:Type:=Int×Int×D_api_Lock×Unit
abbrev T_api_Rule:Ty:=(.pair .str (.pair (.slice T_api_Tag) T_api_Lock))
abbrev D_api_Rule:Type:=ByteArray×(List (D_api_Tag))×Int×Int×Bool×Unit
abbrev T_api_Upload:Ty:=(.pair (.int .u64) (.pair .str (.pair (.slice T_api_Tag) (.pair (.slice T_api_Part) .unit))))
abbrev D_api_Upload:Type:=Int×ByteArray×(List (D_api_Tag))×(List (D_api_Part))×Unit
abbrev T_api_Version:Ty:=(.pair (.int .u64) (.pair .bool (.pair (.int .i64) (.pair (.int .u64) (.pair (.arr 32 (.int .u8)) (.pair (.int .i64) (.pair T_api_Lock (.pair (.slice T_api_Tag) .unit))))))))
abbrev D_api_Version:Type:=Int×Bool×Int×Int×(List (Int))×Int×D_api_Lock×(List (D_api_Tag))×Unit
abbrev T_api_Object:Ty:=(.pair .str (.pair (.slice T_api_Version) .unit))
abbrev D_api_Object:Type:=ByteArray×(List (D_api_Version))×Unit
abbrev T_ref15_Row:Ty:=(.pair .str (.pair .str (.pair T_api_Version (.pair T_api_Upload .unit))))
abbrev T_api_Bucket:Ty:=(.pair .str (.pair T_api_Default (.pair (.slice T_api_Rule) (.pair (.slice T_api_Grant) (.pair (.slice T_api_Object) (.pair (.slice T_api_Upload) .unit))))))
abbrev D_api_Bucket:Type:=ByteArray×D_api_Default×(List (D_api_Rule))×(List (D_api_Grant))×(List (D_api_Object))×(List (D_api_Upload))×Unit
abbrev T_api_Entry:Ty:=(.pair (.int .i64) (.pair (.int .i64) (.pair .str (.pair .str (.pair (.int .u64) (.pair T_api_Version (.pair T_api_Lock (.pair (.slice T_api_Tag) (.pair T_api_Default (.pair (.slice T_api_Rule) (.pair (.slice T_api_Grant) (.pair T_api_Part .unit))))))))))))
abbrev T_api_State:Ty:=(.pair (.int .i64) (.pair (.int .u64) (.pair (.int .u64) (.pair (.slice T_api_Bucket) .unit))))
abbrev D_api_State:Type:=Int×Int×Int×(List (D_api_Bucket))×Unit
abbrev T_meta_draft:Ty:=(.pair T_api_State .unit)
abbrev T_meta_census:Ty:=(.pair T_api_State (.pair (.int .i64) (.pair (.mapT (.int .u64) .bool) .unit)))
abbrev D_meta_census:Type:=D_api_State×Int×(List (Int×Bool))×Unit
abbrev T_ref15_Flat:Ty:=(.pair (.int .i64) (.pair (.int .u64) (.pair (.int .u64) (.pair (.slice T_api_Bucket) (.pair (.slice T_ref15_Row) (.pair (.slice T_ref15_Row) .unit))))))
noncomputable def tab:List (Nat×TE):=[(2,⟨(.int .i64),0⟩),(3,⟨(.int .i64),0⟩),(4,⟨.bool,0⟩),(5,⟨(.int .u8),0⟩),(9,⟨.str,0⟩),(12,⟨(.int .u64),0⟩),(21,⟨(.int .i32),0⟩),(22,⟨(.int .u64),0⟩),(23,⟨(.slice T_api_Bucket),128⟩),(24,⟨T_api_State,0⟩),(25,⟨T_api_State,0⟩),(26,⟨(.slice T_api_Entry),344⟩),(29,⟨(.int .i64),0⟩),(36,⟨(.arr 32 (.int .u8)),0⟩),(37,⟨(.arr 32 (.int .u8)),0⟩),(38,⟨T_api_Lock,0⟩),(39,⟨T_api_Lock,0⟩),(40,⟨(.slice T_api_Tag),32⟩),(41,⟨T_api_Version,0⟩),(42,⟨T_api_Version,0⟩),(43,⟨T_api_Default,0⟩),(44,⟨T_api_Default,0⟩),(45,⟨(.slice T_api_Rule),64⟩),(46,⟨(.slice T_api_Grant),56⟩),(47,⟨T_api_Part,0⟩),(48,⟨T_api_Part,0⟩),(49,⟨T_api_Entry,0⟩),(50,⟨T_api_Entry,0⟩),(52,⟨(.slice T_api_Object),40⟩),(53,⟨(.slice T_api_Upload),72⟩),(54,⟨T_api_Bucket,0⟩),(55,⟨T_api_Bucket,0⟩),(60,⟨T_api_Spot,0⟩),(61,⟨T_api_Spot,0⟩),(68,⟨(.slice T_api_Version),120⟩),(69,⟨T_api_Object,0⟩),(70,⟨T_api_Object,0⟩),(74,⟨(.slice T_ref15_Row),224⟩),(75,⟨T_ref15_Flat,0⟩),(76,⟨T_ref15_Flat,0⟩),(92,⟨(.slice T_api_Part),56⟩),(93,⟨T_api_Upload,0⟩),(94,⟨T_api_Upload,0⟩),(95,⟨T_ref15_Row,0⟩),(96,⟨T_ref15_Row,0⟩),(98,⟨(.slice T_count_Use),56⟩),(100,⟨(.slice T_count_Use),56⟩),(102,⟨T_count_Use,0⟩),(103,⟨T_count_Use,0⟩),(104,⟨T_count_Use,0⟩),(106,⟨(.slice (.int .u64)),8⟩),(112,⟨(.opq 0),0⟩),(114,⟨T_meta_draft,0⟩),(115,⟨T_meta_draft,0⟩),(121,⟨(.opq 1),0⟩),(122,⟨(.opq 0),0⟩),(123,⟨(.mapT (.int .u64) .bool),0⟩),(124,⟨T_meta_census,0⟩),(125,⟨T_meta_census,0⟩),(127,⟨(.opq 1),0⟩),(132,⟨(.opq 1),0⟩),(143,⟨T_api_Rule,0⟩),(144,⟨T_api_Rule,0⟩),(151,⟨(.opq 1),0⟩),(160,⟨(.slice T_count_says),48⟩),(162,⟨T_count_says,0⟩),(163,⟨T_count_says,0⟩),(166,⟨(.opq 1),0⟩),(168,⟨(.mapT (.int .u64) T_count_says),0⟩),(175,⟨(.opq 0),0⟩),(179,⟨T_api_Grant,0⟩),(180,⟨T_api_Grant,0⟩),(188,⟨(.opq 1),0⟩),(191,⟨(.opq 1),0⟩),(195,⟨(.opq 1),0⟩),(199,⟨(.slice T_rules_event),40⟩),(201,⟨T_rules_event,0⟩),(202,⟨T_rules_event,0⟩),(209,⟨(.int .u64),0⟩),(211,⟨T_api_Tag,0⟩),(212,⟨T_api_Tag,0⟩),(229,⟨(.opq 1),0⟩),(235,⟨(.opq 1),0⟩),(241,⟨(.opq 1),0⟩),(243,⟨(.opq 1),0⟩),(246,⟨(.slice T_glob_piece),16⟩),(263,⟨(.int .u32),0⟩),(279,⟨(.slice .str),16⟩),(285,⟨(.slice T_glob_piece),16⟩),(292,⟨T_glob_piece,0⟩),(293,⟨T_glob_piece,0⟩),(295,⟨(.int .u64),0⟩),(299,⟨(.opq 0),0⟩),(304,⟨(.opq 1),0⟩),(308,⟨(.arr 256 .bool),0⟩),(309,⟨(.arr 256 .bool),0⟩),(313,⟨(.opq 0),0⟩),(314,⟨(.slice (.int .u8)),1⟩),(315,⟨T_glob_piece,0⟩),(316,⟨T_glob_piece,0⟩),(329,⟨(.arr 256 (.int .u8)),0⟩),(330,⟨T_unicode_utf8_acceptRange,0⟩),(331,⟨T_unicode_utf8_acceptRange,0⟩),(332,⟨(.arr 16 T_unicode_utf8_acceptRange),0⟩)]
noncomputable def firstCells:List Value:=Lib.firstTab.map λz=>Value.int .u8 z
noncomputable def acceptCells:List Value:=(List.range 16).flatMap λi=>[Value.int .u8 (Lib.accLo i),Value.int .u8 (Lib.accHi i)]
noncomputable instance:Gl:=⟨[(0,λcs=>cs=firstCells),(1,λcs=>cs=acceptCells),(2,λcs=>∃ m,cs=[.int .i64 m])],[]⟩
theorem tabIs:TabOk Tryz.prog tab:=tabB_ok (by kernel_rfl)
theorem mixed:Tryz.prog.follows .mixedOrders=true:=Tryz.checked.mixed
end Go.Proofs.YtnejdhgbpefanaaGreatDoor
namespace Go.Proofs.YtnejdhgbpefanaaGreatDoor
open Go Go.Proofs
namespace Aw25
set_option maxRecDepth 100000
set_option maxHeartbeats 4000000
noncomputable def ft:FuncId→Option Func
  | 26=>some Tryz.f26
  | 21=>some Tryz.f21
  | 16=>some Tryz.f16
  | 24=>some Tryz.f24
  | 28=>some Tryz.f28
  | 74=>some Tryz.f74
  | 19=>some Tryz.f19
  | 50=>some Tryz.f50
  | 51=>some Tryz.f51
  | 71=>some Tryz.f71
  | 72=>some Tryz.f72
  | 73=>some Tryz.f73
  | 76=>some Tryz.f76
  | 54=>some Tryz.f54
  | 55=>some Tryz.f55
  | 56=>some Tryz.f56
  | 58=>some Tryz.f58
  | 57=>some Tryz.f57
  | 67=>some Tryz.f67
  | 94=>some Tryz.f94
  | 95=>some Tryz.f95
  | 66=>some Tryz.f66
  | 96=>some Tryz.f96
  | 97=>some Tryz.f97
  | 99=>some Tryz.f99
  | 98=>some Tryz.f98
  | 100=>some Tryz.f100
  | 101=>some Tryz.f101
  | 102=>some Tryz.f102
  | 103=>some Tryz.f103
  | 137=>some Tryz.f137
  | 138=>some Tryz.f138
  | 139=>some Tryz.f139
  | 112=>some Tryz.f112
  | 115=>some Tryz.f115
  | 116=>some Tryz.f116
  | 117=>some Tryz.f117
  | 118=>some Tryz.f118
  | 119=>some Tryz.f119
  | 80=>some Tryz.f80
  | 120=>some Tryz.f120
  | 121=>some Tryz.f121
  | 123=>some Tryz.f123
  | 122=>some Tryz.f122
  | 125=>some Tryz.f125
  | 124=>some Tryz.f124
  | 114=>some Tryz.f114
  | 113=>some Tryz.f113
  | 135=>some Tryz.f135
  | 136=>some Tryz.f136
  | 152=>some Tryz.f152
  | 153=>some Tryz.f153
  | 154=>some Tryz.f154
  | 134=>some Tryz.f134
  | 155=>some Tryz.f155
  | 156=>some Tryz.f156
  | 157=>some Tryz.f157
  | 158=>some Tryz.f158
  | 159=>some Tryz.f159
  | 160=>some Tryz.f160
  | 79=>some Tryz.f79
  | 161=>some Tryz.f161
  | 162=>some Tryz.f162
  | 163=>some Tryz.f163
  | 164=>some Tryz.f164
  | 165=>some Tryz.f165
  | 166=>some Tryz.f166
  | 167=>some Tryz.f167
  | 168=>some Tryz.f168
  | 81=>some Tryz.f81
  | 169=>some Tryz.f169
  | 170=>some Tryz.f170
  | 171=>some Tryz.f171
  | 144=>some Tryz.f144
  | 203=>some Tryz.f203
  | 204=>some Tryz.f204
  | 205=>some Tryz.f205
  | 178=>some Tryz.f178
  | 180=>some Tryz.f180
  | 181=>some Tryz.f181
  | 182=>some Tryz.f182
  | 183=>some Tryz.f183
  | 185=>some Tryz.f185
  | 186=>some Tryz.f186
  | 90=>some Tryz.f90
  | 190=>some Tryz.f190
  | 189=>some Tryz.f189
  | 188=>some Tryz.f188
  | 193=>some Tryz.f193
  | 194=>some Tryz.f194
  | 195=>some Tryz.f195
  | 197=>some Tryz.f197
  | 196=>some Tryz.f196
  | 192=>some Tryz.f192
  | 191=>some Tryz.f191
  | 179=>some Tryz.f179
  | 146=>some Tryz.f146
  | 200=>some Tryz.f200
  | 202=>some Tryz.f202
  | 201=>some Tryz.f201
  | 229=>some Tryz.f229
  | 230=>some Tryz.f230
  | 231=>some Tryz.f231
  | 198=>some Tryz.f198
  | 232=>some Tryz.f232
  | 233=>some Tryz.f233
  | 234=>some Tryz.f234
  | 235=>some Tryz.f235
  | 237=>some Tryz.f237
  | 239=>some Tryz.f239
  | 238=>some Tryz.f238
  | 143=>some Tryz.f143
  | 241=>some Tryz.f241
  | 208=>some Tryz.f208
  | 242=>some Tryz.f242
  | 243=>some Tryz.f243
  | 244=>some Tryz.f244
  | 245=>some Tryz.f245
  | 247=>some Tryz.f247
  | 145=>some Tryz.f145
  | 248=>some Tryz.f248
  | 260=>some Tryz.f260
  | 261=>some Tryz.f261
  | 262=>some Tryz.f262
  | 249=>some Tryz.f249
  | 250=>some Tryz.f250
  | 251=>some Tryz.f251
  | 252=>some Tryz.f252
  | 184=>some Tryz.f184
  | 254=>some Tryz.f254
  | 187=>some Tryz.f187
  | 151=>some Tryz.f151
  | 256=>some Tryz.f256
  | 253=>some Tryz.f253
  | 258=>some Tryz.f258
  | 259=>some Tryz.f259
  | 257=>some Tryz.f257
  | 271=>some Tryz.f271
  | 272=>some Tryz.f272
  | 273=>some Tryz.f273
  | 274=>some Tryz.f274
  | 275=>some Tryz.f275
  | 276=>some Tryz.f276
  | 277=>some Tryz.f277
  | 210=>some Tryz.f210
  | 209=>some Tryz.f209
  | 288=>some Tryz.f288
  | 289=>some Tryz.f289
  | 278=>some Tryz.f278
  | 280=>some Tryz.f280
  | 279=>some Tryz.f279
  | 281=>some Tryz.f281
  | 283=>some Tryz.f283
  | 282=>some Tryz.f282
  | 285=>some Tryz.f285
  | 284=>some Tryz.f284
  | 286=>some Tryz.f286
  | 255=>some Tryz.f255
  | 287=>some Tryz.f287
  | 292=>some Tryz.f292
  | 293=>some Tryz.f293
  | 294=>some Tryz.f294
  | 295=>some Tryz.f295
  | 296=>some Tryz.f296
  | 297=>some Tryz.f297
  | 298=>some Tryz.f298
  | 301=>some Tryz.f301
  | 300=>some Tryz.f300
  | 299=>some Tryz.f299
  | 303=>some Tryz.f303
  | 304=>some Tryz.f304
  | 306=>some Tryz.f306
  | 309=>some Tryz.f309
  | 308=>some Tryz.f308
  | 307=>some Tryz.f307
  | 311=>some Tryz.f311
  | 312=>some Tryz.f312
  | 313=>some Tryz.f313
  | 314=>some Tryz.f314
  | _=>none
theorem ftOk:Co.FtOk Tryz.prog ft:=by
  intro g fn h
  unfold ft at h
  split at h
  · injection h with h;subst h;exact⟨Tryz.func26,by kernel_rfl⟩
  · injection h with h;subst h;exact⟨Tryz.func21,by kernel_rfl⟩
  · injection h with h;subst h;exact⟨Tryz.func16,by kernel_rfl⟩
  · injection h with h;subst h;exact⟨Tryz.func24,by kernel_rfl⟩
  · injection h with h;subst h;exact⟨Tryz.func28,by kernel_rfl⟩
  · injection h with h;subst h;exact⟨Tryz.func74,by kernel_rfl⟩
  · injection h with h;subst h;exact⟨Tryz.func19,by kernel_rfl⟩
  · injection h with h;subst h;exact⟨Tryz.func50,by kernel_rfl⟩
  · injection h with h;subst h;exact⟨Tryz.func51,by kernel_rfl⟩
  · injection h with h;subst h;exact⟨Tryz.func71,by kernel_rfl⟩
  · injection h with h;subst h;exact⟨Tryz.func72,by kernel_rfl⟩
  · injection h with h;subst h;exact⟨Tryz.func73,by kernel_rfl⟩
  · injection h with h;subst h;exact⟨Tryz.func76,by kernel_rfl⟩
  · injection h with h;subst h;exact⟨Tryz.func54,by kernel_rfl⟩
  · injection h with h;subst h;exact⟨Tryz.func55,by kernel_rfl⟩
  · injection h with h;subst h;exact⟨Tryz.func56,by kernel_rfl⟩
  · injection h with h;subst h;exact⟨Tryz.func58,by kernel_rfl⟩
  · injection h with h;subst h;exact⟨Tryz.func57,by kernel_rfl⟩
  · injection h with h;subst h;exact⟨Tryz.func67,by kernel_rfl⟩
  · injection h with h;subst h;exact⟨Tryz.func94,by kernel_rfl⟩
  · injection h with h;subst h;exact⟨Tryz.func95,by kernel_rfl⟩
  · injection h with h;subst h;exact⟨Tryz.func66,by kernel_rfl⟩
  · injection h with h;subst h;exact⟨Tryz.func96,by kernel_rfl⟩
  · injection h with h;subst h;exact⟨Tryz.func97,by kernel_rfl⟩
  · injection h with h;subst h;exact⟨Tryz.func99,by kernel_rfl⟩
  · injection h with h;subst h;exact⟨Tryz.func98,by kernel_rfl⟩
  · injection h with h;subst h;exact⟨Tryz.func100,by kernel_rfl⟩
  · injection h with h;subst h;exact⟨Tryz.func101,by kernel_rfl⟩
  · injection h with h;subst h;exact⟨Tryz.func102,by kernel_rfl⟩
  · injection h with h;subst h;exact⟨Tryz.func103,by kernel_rfl⟩
  · injection h with h;subst h;exact⟨Tryz.func137,by kernel_rfl⟩
  · injection h with h;subst h;exact⟨Tryz.func138,by kernel_rfl⟩
  · injection h with h;subst h;exact⟨Tryz.func139,by kernel_rfl⟩
  · injection h with h;subst h;exact⟨Tryz.func112,by kernel_rfl⟩
  · injection h with h;subst h;exact⟨Tryz.func115,by kernel_rfl⟩
  · injection h with h;subst h;exact⟨Tryz.func116,by kernel_rfl⟩
  · injection h with h;subst h;exact⟨Tryz.func117,by kernel_rfl⟩
  · injection h with h;subst h;exact⟨Tryz.func118,by kernel_rfl⟩
  · injection h with h;subst h;exact⟨Tryz.func119,by kernel_rfl⟩
  · injection h with h;subst h;exact⟨Tryz.func80,by kernel_rfl⟩
  · injection h with h;subst h;exact⟨Tryz.func120,by kernel_rfl⟩
  · injection h with h;subst h;exact⟨Tryz.func121,by kernel_rfl⟩
  · injection h with h;subst h;exact⟨Tryz.func123,by kernel_rfl⟩
  · injection h with h;subst h;exact⟨Tryz.func122,by kernel_rfl⟩
  · injection h with h;subst h;exact⟨Tryz.func125,by kernel_rfl⟩
  · injection h with h;subst h;exact⟨Tryz.func124,by kernel_rfl⟩
  · injection h with h;subst h;exact⟨Tryz.func114,by kernel_rfl⟩
  · injection h with h;subst h;exact⟨Tryz.func113,by kernel_rfl⟩
  · injection h with h;subst h;exact⟨Tryz.func135,by kernel_rfl⟩
  · injection h with h;subst h;exact⟨Tryz.func136,by kernel_rfl⟩
  · injection h with h;subst h;exact⟨Tryz.func152,by kernel_rfl⟩
  · injection h with h;subst h;exact⟨Tryz.func153,by kernel_rfl⟩
  · injection h with h;subst h;exact⟨Tryz.func154,by kernel_rfl⟩
  · injection h with h;subst h;exact⟨Tryz.func134,by kernel_rfl⟩
  · injection h with h;subst h;exact⟨Tryz.func155,by kernel_rfl⟩
  · injection h with h;subst h;exact⟨Tryz.func156,by kernel_rfl⟩
  · injection h with h;subst h;exact⟨Tryz.func157,by kernel_rfl⟩
  · injection h with h;subst h;exact⟨Tryz.func158,by kernel_rfl⟩
  · injection h with h;subst h;exact⟨Tryz.func159,by kernel_rfl⟩
  · injection h with h;subst h;exact⟨Tryz.func160,by kernel_rfl⟩
  · injection h with h;subst h;exact⟨Tryz.func79,by kernel_rfl⟩
  · injection h with h;subst h;exact⟨Tryz.func161,by kernel_rfl⟩
  · injection h with h;subst h;exact⟨Tryz.func162,by kernel_rfl⟩
  · injection h with h;subst h;exact⟨Tryz.func163,by kernel_rfl⟩
  · injection h with h;subst h;exact⟨Tryz.func164,by kernel_rfl⟩
  · injection h with h;subst h;exact⟨Tryz.func165,by kernel_rfl⟩
  · injection h with h;subst h;exact⟨Tryz.func166,by kernel_rfl⟩
  · injection h with h;subst h;exact⟨Tryz.func167,by kernel_rfl⟩
  · injection h with h;subst h;exact⟨Tryz.func168,by kernel_rfl⟩
  · injection h with h;subst h;exact⟨Tryz.func81,by kernel_rfl⟩
  · injection h with h;subst h;exact⟨Tryz.func169,by kernel_rfl⟩
  · injection h with h;subst h;exact⟨Tryz.func170,by kernel_rfl⟩
  · injection h with h;subst h;exact⟨Tryz.func171,by kernel_rfl⟩
  · injection h with h;subst h;exact⟨Tryz.func144,by kernel_rfl⟩
  · injection h with h;subst h;exact⟨Tryz.func203,by kernel_rfl⟩
  · injection h with h;subst h;exact⟨Tryz.func204,by kernel_rfl⟩
  · injection h with h;subst h;exact⟨Tryz.func205,by kernel_rfl⟩
  · injection h with h;subst h;exact⟨Tryz.func178,by kernel_rfl⟩
  · injection h with h;subst h;exact⟨Tryz.func180,by kernel_rfl⟩
  · injection h with h;subst h;exact⟨Tryz.func181,by kernel_rfl⟩
  · injection h with h;subst h;exact⟨Tryz.func182,by kernel_rfl⟩
  · injection h with h;subst h;exact⟨Tryz.func183,by kernel_rfl⟩
  · injection h with h;subst h;exact⟨Tryz.func185,by kernel_rfl⟩
  · injection h with h;subst h;exact⟨Tryz.func186,by kernel_rfl⟩
  · injection h with h;subst h;exact⟨Tryz.func90,by kernel_rfl⟩
  · injection h with h;subst h;exact⟨Tryz.func190,by kernel_rfl⟩
  · injection h with h;subst h;exact⟨Tryz.func189,by kernel_rfl⟩
  · injection h with h;subst h;exact⟨Tryz.func188,by kernel_rfl⟩
  · injection h with h;subst h;exact⟨Tryz.func193,by kernel_rfl⟩
  · injection h with h;subst h;exact⟨Tryz.func194,by kernel_rfl⟩
  · injection h with h;subst h;exact⟨Tryz.func195,by kernel_rfl⟩
  · injection h with h;subst h;exact⟨Tryz.func197,by kernel_rfl⟩
  · injection h with h;subst h;exact⟨Tryz.func196,by kernel_rfl⟩
  · injection h with h;subst h;exact⟨Tryz.func192,by kernel_rfl⟩
  · injection h with h;subst h;exact⟨Tryz.func191,by kernel_rfl⟩
  · injection h with h;subst h;exact⟨Tryz.func179,by kernel_rfl⟩
  · injection h with h;subst h;exact⟨Tryz.func146,by kernel_rfl⟩
  · injection h with h;subst h;exact⟨Tryz.func200,by kernel_rfl⟩
  · injection h with h;subst h;exact⟨Tryz.func202,by kernel_rfl⟩
  · injection h with h;subst h;exact⟨Tryz.func201,by kernel_rfl⟩
  · injection h with h;subst h;exact⟨Tryz.func229,by kernel_rfl⟩
  · injection h with h;subst h;exact⟨Tryz.func230,by kernel_rfl⟩
  · injection h with h;subst h;exact⟨Tryz.func231,by kernel_rfl⟩
  · injection h with h;subst h;exact⟨Tryz.func198,by kernel_rfl⟩
  · injection h with h;subst h;exact⟨Tryz.func232,by kernel_rfl⟩
  · injection h with h;subst h;exact⟨Tryz.func233,by kernel_rfl⟩
  · injection h with h;subst h;exact⟨Tryz.func234,by kernel_rfl⟩
  · injection h with h;subst h;exact⟨Tryz.func235,by kernel_rfl⟩
  · injection h with h;subst h;exact⟨Tryz.func237,by kernel_rfl⟩
  · injection h with h;subst h;exact⟨Tryz.func239,by kernel_rfl⟩
  · injection h with h;subst h;exact⟨Tryz.func238,by kernel_rfl⟩
  · injection h with h;subst h;exact⟨Tryz.func143,by kernel_rfl⟩
  · injection h with h;subst h;exact⟨Tryz.func241,by kernel_rfl⟩
  · injection h with h;subst h;exact⟨Tryz.func208,by kernel_rfl⟩
  · injection h with h;subst h;exact⟨Tryz.func242,by kernel_rfl⟩
  · injection h with h;subst h;exact⟨Tryz.func243,by kernel_rfl⟩
  · injection h with h;subst h;exact⟨Tryz.func244,by kernel_rfl⟩
  · injection h with h;subst h;exact⟨Tryz.func245,by kernel_rfl⟩
  · injection h with h;subst h;exact⟨Tryz.func247,by kernel_rfl⟩
  · injection h with h;subst h;exact⟨Tryz.func145,by kernel_rfl⟩
  · injection h with h;subst h;exact⟨Tryz.func248,by kernel_rfl⟩
  · injection h with h;subst h;exact⟨Tryz.func260,by kernel_rfl⟩
  · injection h with h;subst h;exact⟨Tryz.func261,by kernel_rfl⟩
  · injection h with h;subst h;exact⟨Tryz.func262,by kernel_rfl⟩
  · injection h with h;subst h;exact⟨Tryz.func249,by kernel_rfl⟩
  · injection h with h;subst h;exact⟨Tryz.func250,by kernel_rfl⟩
  · injection h with h;subst h;exact⟨Tryz.func251,by kernel_rfl⟩
  · injection h with h;subst h;exact⟨Tryz.func252,by kernel_rfl⟩
  · injection h with h;subst h;exact⟨Tryz.func184,by kernel_rfl⟩
  · injection h with h;subst h;exact⟨Tryz.func254,by kernel_rfl⟩
  · injection h with h;subst h;exact⟨Tryz.func187,by kernel_rfl⟩
  · injection h with h;subst h;exact⟨Tryz.func151,by kernel_rfl⟩
  · injection h with h;subst h;exact⟨Tryz.func256,by kernel_rfl⟩
  · injection h with h;subst h;exact⟨Tryz.func253,by kernel_rfl⟩
  · injection h with h;subst h;exact⟨Tryz.func258,by kernel_rfl⟩
  · injection h with h;subst h;exact⟨Tryz.func259,by kernel_rfl⟩
  · injection h with h;subst h;exact⟨Tryz.func257,by kernel_rfl⟩
  · injection h with h;subst h;exact⟨Tryz.func271,by kernel_rfl⟩
  · injection h with h;subst h;exact⟨Tryz.func272,by kernel_rfl⟩
  · injection h with h;subst h;exact⟨Tryz.func273,by kernel_rfl⟩
  · injection h with h;subst h;exact⟨Tryz.func274,by kernel_rfl⟩
  · injection h with h;subst h;exact⟨Tryz.func275,by kernel_rfl⟩
  · injection h with h;subst h;exact⟨Tryz.func276,by kernel_rfl⟩
  · injection h with h;subst h;exact⟨Tryz.func277,by kernel_rfl⟩
  · injection h with h;subst h;exact⟨Tryz.func210,by kernel_rfl⟩
  · injection h with h;subst h;exact⟨Tryz.func209,by kernel_rfl⟩
  · injection h with h;subst h;exact⟨Tryz.func288,by kernel_rfl⟩
  · injection h with h;subst h;exact⟨Tryz.func289,by kernel_rfl⟩
  · injection h with h;subst h;exact⟨Tryz.func278,by kernel_rfl⟩
  · injection h with h;subst h;exact⟨Tryz.func280,by kernel_rfl⟩
  · injection h with h;subst h;exact⟨Tryz.func279,by kernel_rfl⟩
  · injection h with h;subst h;exact⟨Tryz.func281,by kernel_rfl⟩
  · injection h with h;subst h;exact⟨Tryz.func283,by kernel_rfl⟩
  · injection h with h;subst h;exact⟨Tryz.func282,by kernel_rfl⟩
  · injection h with h;subst h;exact⟨Tryz.func285,by kernel_rfl⟩
  · injection h with h;subst h;exact⟨Tryz.func284,by kernel_rfl⟩
  · injection h with h;subst h;exact⟨Tryz.func286,by kernel_rfl⟩
  · injection h with h;subst h;exact⟨Tryz.func255,by kernel_rfl⟩
  · injection h with h;subst h;exact⟨Tryz.func287,by kernel_rfl⟩
  · injection h with h;subst h;exact⟨Tryz.func292,by kernel_rfl⟩
  · injection h with h;subst h;exact⟨Tryz.func293,by kernel_rfl⟩
  · injection h with h;subst h;exact⟨Tryz.func294,by kernel_rfl⟩
  · injection h with h;subst h;exact⟨Tryz.func295,by kernel_rfl⟩
  · injection h with h;subst h;exact⟨Tryz.func296,by kernel_rfl⟩
  · injection h with h;subst h;exact⟨Tryz.func297,by kernel_rfl⟩
  · injection h with h;subst h;exact⟨Tryz.func298,by kernel_rfl⟩
  · injection h with h;subst h;exact⟨Tryz.func301,by kernel_rfl⟩
  · injection h with h;subst h;exact⟨Tryz.func300,by kernel_rfl⟩
  · injection h with h;subst h;exact⟨Tryz.func299,by kernel_rfl⟩
  · injection h with h;subst h;exact⟨Tryz.func303,by kernel_rfl⟩
  · injection h with h;subst h;exact⟨Tryz.func304,by kernel_rfl⟩
  · injection h with h;subst h;exact⟨Tryz.func306,by kernel_rfl⟩
  · injection h with h;subst h;exact⟨Tryz.func309,by kernel_rfl⟩
  · injection h with h;subst h;exact⟨Tryz.func308,by kernel_rfl⟩
  · injection h with h;subst h;exact⟨Tryz.func307,by kernel_rfl⟩
  · injection h with h;subst h;exact⟨Tryz.func311,by kernel_rfl⟩
  · injection h with h;subst h;exact⟨Tryz.func312,by kernel_rfl⟩
  · injection h with h;subst h;exact⟨Tryz.func313,by kernel_rfl⟩
  · injection h with h;subst h;exact⟨Tryz.func314,by kernel_rfl⟩
  · exact nomatch h
noncomputable def xt:FuncId→Option (Array Value→Sem Value)
  | 302=>some Extern.BytealgIndexByte.indexByte
  | 305=>some Extern.BytealgCount.count
  | _=>none
theorem xtOk:Co.XtOk Tryz.prog xt:=by
  intro g e h
  unfold xt at h
  split at h
  · injection h with h;subst h;exact⟨Tryz.f302,Tryz.func302,by kernel_rfl,by kernel_rfl,by kernel_rfl,by kernel_rfl⟩
  · injection h with h;subst h;exact⟨Tryz.f305,Tryz.func305,by kernel_rfl,by kernel_rfl,by kernel_rfl,by kernel_rfl⟩
  · exact nomatch h
end Aw25
end Go.Proofs.YtnejdhgbpefanaaGreatDoor
namespace Go.Proofs.YtnejdhgbpefanaaGreatDoor
open Go Go.Proofs
namespace Aw25
theorem runs (w:World):Calls Tryz.prog 26 #[] w λen w'=>en = .returned (.bool true)∧Va.Grow w w':=
  Co.run_says mixed tabIs xtOk ftOk (N:=1000) (d:=60) (by kernel_rfl) w
end Aw25
end Go.Proofs.YtnejdhgbpefanaaGreatDoor
