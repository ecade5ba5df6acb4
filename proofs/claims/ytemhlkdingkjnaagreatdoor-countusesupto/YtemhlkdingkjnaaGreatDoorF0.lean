/-
  The table of types, and the simplest facts by a run with known values.
-/
import Derived.Test.YtemhlkdingkjnaaGreatDoorVaTab
import Derived.Test.YtemhlkdingkjnaaGreatDoorChecked
import Derived.Lib.LaidU8T
import Derived.Test.YtemhlkdingkjnaaGreatDoorCoEnd
set_option linter.unusedVariables false
set_option linter.unusedSimpArgs false
namespace Go.Proofs.YtemhlkdingkjnaaGreatDoor
open Go Go.Va Go.Proofs
abbrev T_api_Tag:Ty:=(.pair .str (.pair .str .unit))
abbrev D_api_Tag:Type:=ByteArray×ByteArray×Unit
abbrev T_runtime_errorAddressString:Ty:=(.pair .str (.pair (.int .u64) .unit))
abbrev T_unicode_utf8_acceptRange:Ty:=(.pair (.int .u8) (.pair (.int .u8) .unit))
abbrev T_glob_piece:Ty:=(.pair (.int .i64) (.pair (.int .u8) .unit))
abbrev D_glob_piece:Type:=Int×Int×Unit
abbrev T_api_Default:Ty:=(.pair (.int .i64) (.pair (.int .i64) .unit))
abbrev D_api_Default:Type:=Int×Int×Unit
abbrev T_api_Spot:Ty:=(.pair .str T_runtime_errorAddressString)
abbrev T_api_Lock:Ty:=(.pair (.int .i64) (.pair (.int .i64) (.pair .bool .unit)))
abbrev D_api_Lock:Type:=Int×Int×Bool×Unit
abbrev T_api_Grant:Ty:=(.pair .bool (.pair .str T_api_Tag))
abbrev D_api_Grant:Type:=Bool×ByteArray×ByteArray×ByteArray×Unit
abbrev T_count_says:Ty:=(.pair (.int .u64) (.pair (.int .i64) (.pair (.arr 32 (.int .u8)) .unit)))
abbrev D_count_says:Type:=Int×Int×(List (Int))×Unit
abbrev T_count_Use:Ty:=(.pair (.int .u64) (.pair (.int .i64) (.pair (.int .i64) (.pair (.arr 32 (.int .u8)) .unit))))
abbrev D_count_Use:Type:=Int×Int×Int×(List (Int))×Unit
abbrev T_api_Part:Ty:=(.pair (.int .i64) (.pair (.int .i64) (.pair (.int .u64) (.pair (.arr 32 (.int .u8)) .unit))))
abbrev D_api_Part:Type:=Int×Int×Int×(List (Int))×Unit
abbrev T_api_Rule:Ty:=(.pair .str (.pair (.slice T_api_Tag) T_api_Lock))
abbrev D_api_Rule:Type:=ByteArray×(List (D_api_Tag))×Int×Int×Bool×Unit
abbrev T_api_Upload:Ty:=(.pair (.int .u64) (.pair .str (.pair (.slice T_api_Tag) (.pair (.slice T_api_Part) .unit))))
abbrev D_api_Upload:Type:=Int×ByteArray×(List (D_api_Tag))×(List (D_api_Part))×Unit
abbrev T_api_Version:Ty:=(.pair (.int .u64) (.pair .bool (.pair (.int .i64) (.pair (.int .u64) (.pair (.arr 32 (.int .u8)) (.pair (.int .i64) (.pair T_api_Lock (.pair (.slice T_api_Tag) .unit))))))))
abbrev D_api_Version:Type:=Int×Bool×Int×Int×(List (Int))×Int×D_api_Lock×(List (D_api_Tag))×Unit
abbrev T_api_Object:Ty:=(.pair .str (.pair (.slice T_api_Version) .unit))
abbrev D_api_Object:Type:=ByteArray×(List (D_api_Version))×Unit
abbrev T_ref15_Row:Ty:=(.pair .str (.pair .str (.pair T_api_Version (.pair T_api_Upload .unit))))
abbrev D_ref15_Row:Type:=ByteArray×ByteArray×D_api_Version×D_api_Upload×Unit
abbrev T_api_Bucket:Ty:=(.pair .str (.pair T_api_Default (.pair (.slice T_api_Rule) (.pair (.slice T_api_Grant) (.pair (.slice T_api_Object) (.pair (.slice T_api_Upload) .unit))))))
abbrev D_api_Bucket:Type:=ByteArray×D_api_Default×(List (D_api_Rule))×(List (D_api_Grant))×(List (D_api_Object))×(List (D_api_Upload))×Unit
abbrev T_api_Entry:Ty:=(.pair (.int .i64) (.pair (.int .i64) (.pair .str (.pair .str (.pair (.int .u64) (.pair T_api_Version (.pair T_api_Lock (.pair (.slice T_api_Tag) (.pair T_api_Default (.pair (.slice T_api_Rule) (.pair (.slice T_api_Grant) (.pair T_api_Part .unit))))))))))))
abbrev T_api_State:Ty:=(.pair (.int .i64) (.pair (.int .u64) (.pair (.int .u64) (.pair (.slice T_api_Bucket) .unit))))
abbrev D_api_State:Type:=Int×Int×Int×(List (D_api_Bucket))×Unit
abbrev T_meta_draft:Ty:=(.pair T_api_State .unit)
abbrev T_meta_census:Ty:=(.pair T_api_State (.pair (.int .i64) (.pair (.mapT (.int .u64) .bool) .unit)))
abbrev D_meta_census:Type:=D_api_State×Int×(List (Int×Bool))×Unit
abbrev T_ref15_Flat:Ty:=(.pair (.int .i64) (.pair (.int .u64) (.pair (.int .u64) (.pair (.slice T_api_Bucket) (.pair (.slice T_ref15_Row) (.pair (.slice T_ref15_Row) .unit))))))
abbrev D_ref15_Flat:Type:=Int×Int×Int×(List (D_api_Bucket))×(List (D_ref15_Row))×(List (D_ref15_Row))×Unit
noncomputable def tab:List (Nat×TE):=[(2,⟨(.int .i64),0⟩),(3,⟨(.int .i64),0⟩),(4,⟨.bool,0⟩),(5,⟨(.int .u8),0⟩),(9,⟨.str,0⟩),(12,⟨(.int .u64),0⟩),(21,⟨(.int .i32),0⟩),(22,⟨(.int .u64),0⟩),(23,⟨(.slice T_api_Bucket),128⟩),(24,⟨T_api_State,0⟩),(25,⟨T_api_State,0⟩),(26,⟨T_api_Spot,0⟩),(27,⟨T_api_Spot,0⟩),(30,⟨T_api_Default,0⟩),(31,⟨T_api_Default,0⟩),(32,⟨(.slice T_api_Rule),64⟩),(33,⟨(.slice T_api_Grant),56⟩),(34,⟨(.slice T_api_Object),40⟩),(35,⟨(.slice T_api_Upload),72⟩),(36,⟨T_api_Bucket,0⟩),(37,⟨T_api_Bucket,0⟩),(41,⟨(.slice T_api_Version),120⟩),(42,⟨T_api_Object,0⟩),(43,⟨T_api_Object,0⟩),(46,⟨(.arr 32 (.int .u8)),0⟩),(47,⟨(.arr 32 (.int .u8)),0⟩),(48,⟨T_api_Lock,0⟩),(49,⟨T_api_Lock,0⟩),(50,⟨(.slice T_api_Tag),32⟩),(51,⟨T_api_Version,0⟩),(52,⟨T_api_Version,0⟩),(57,⟨(.slice T_ref15_Row),224⟩),(58,⟨T_ref15_Flat,0⟩),(59,⟨T_ref15_Flat,0⟩),(69,⟨(.slice T_api_Part),56⟩),(70,⟨T_api_Upload,0⟩),(71,⟨T_api_Upload,0⟩),(72,⟨T_ref15_Row,0⟩),(73,⟨T_ref15_Row,0⟩),(75,⟨(.slice T_count_Use),56⟩),(77,⟨(.slice T_count_Use),56⟩),(79,⟨T_count_Use,0⟩),(80,⟨T_count_Use,0⟩),(81,⟨T_count_Use,0⟩),(83,⟨(.slice (.int .u64)),8⟩),(92,⟨T_api_Part,0⟩),(93,⟨T_api_Part,0⟩),(94,⟨T_api_Entry,0⟩),(95,⟨T_api_Entry,0⟩),(98,⟨(.opq 1),0⟩),(101,⟨(.opq 1),0⟩),(113,⟨(.opq 1),0⟩),(119,⟨(.mapT (.int .u64) (.int .i64)),0⟩),(120,⟨(.slice T_count_says),48⟩),(122,⟨T_count_says,0⟩),(123,⟨T_count_says,0⟩),(126,⟨(.opq 1),0⟩),(131,⟨(.mapT (.int .u64) .bool),0⟩),(132,⟨(.slice T_api_Entry),344⟩),(133,⟨(.opq 0),0⟩),(135,⟨T_meta_draft,0⟩),(136,⟨T_meta_draft,0⟩),(139,⟨(.opq 0),0⟩),(140,⟨T_meta_census,0⟩),(141,⟨T_meta_census,0⟩),(143,⟨(.opq 1),0⟩),(147,⟨T_api_Grant,0⟩),(148,⟨T_api_Grant,0⟩),(155,⟨(.int .u64),0⟩),(158,⟨T_api_Rule,0⟩),(159,⟨T_api_Rule,0⟩),(162,⟨(.opq 1),0⟩),(163,⟨T_api_Tag,0⟩),(164,⟨T_api_Tag,0⟩),(171,⟨(.opq 0),0⟩),(176,⟨(.opq 1),0⟩),(179,⟨(.opq 1),0⟩),(184,⟨(.opq 1),0⟩),(193,⟨(.int .u32),0⟩),(196,⟨(.slice T_glob_piece),16⟩),(218,⟨(.opq 1),0⟩),(225,⟨(.opq 1),0⟩),(227,⟨(.opq 1),0⟩),(230,⟨(.int .u64),0⟩),(234,⟨(.opq 0),0⟩),(236,⟨T_glob_piece,0⟩),(237,⟨T_glob_piece,0⟩),(249,⟨(.slice .str),16⟩),(255,⟨(.slice T_glob_piece),16⟩),(262,⟨(.slice (.int .u8)),1⟩),(268,⟨(.opq 1),0⟩),(272,⟨(.arr 256 .bool),0⟩),(273,⟨(.arr 256 .bool),0⟩),(277,⟨(.opq 0),0⟩),(278,⟨T_glob_piece,0⟩),(279,⟨T_glob_piece,0⟩),(281,⟨(.arr 256 (.int .u8)),0⟩),(282,⟨T_unicode_utf8_acceptRange,0⟩),(283,⟨T_unicode_utf8_acceptRange,0⟩),(284,⟨(.arr 16 T_unicode_utf8_acceptRange),0⟩)]
noncomputable def firstCells:List Value:=Lib.firstTab.map λz=>Value.int .u8 z
noncomputable def acceptCells:List Value:=(List.range 16).flatMap λi=>[Value.int .u8 (Lib.accLo i),Value.int .u8 (Lib.accHi i)]
noncomputable instance:Gl:=⟨[(0,λcs=>cs=firstCells),(1,λcs=>cs=acceptCells),(2,λcs=>∃ m,cs=[.int .i64 m])],[]⟩
theorem tabIs:TabOk Tryz.prog tab:=tabB_ok (by kernel_rfl)
theorem mixed:Tryz.prog.follows .mixedOrders=true:=Tryz.checked.mixed
end Go.Proofs.YtemhlkdingkjnaaGreatDoor
namespace Go.Proofs.YtemhlkdingkjnaaGreatDoor
open Go Go.Proofs
namespace Aw16
set_option maxRecDepth 100000
set_option maxHeartbeats 4000000
noncomputable def ft:FuncId→Option Func
  | 24=>some Tryz.f24
  | 30=>some Tryz.f30
  | 29=>some Tryz.f29
  | 22=>some Tryz.f22
  | 25=>some Tryz.f25
  | 59=>some Tryz.f59
  | 28=>some Tryz.f28
  | 27=>some Tryz.f27
  | 13=>some Tryz.f13
  | 31=>some Tryz.f31
  | 62=>some Tryz.f62
  | 63=>some Tryz.f63
  | 53=>some Tryz.f53
  | 54=>some Tryz.f54
  | 55=>some Tryz.f55
  | 57=>some Tryz.f57
  | 60=>some Tryz.f60
  | 61=>some Tryz.f61
  | 42=>some Tryz.f42
  | 43=>some Tryz.f43
  | 44=>some Tryz.f44
  | 45=>some Tryz.f45
  | 46=>some Tryz.f46
  | 47=>some Tryz.f47
  | 48=>some Tryz.f48
  | 64=>some Tryz.f64
  | 65=>some Tryz.f65
  | 33=>some Tryz.f33
  | 67=>some Tryz.f67
  | 66=>some Tryz.f66
  | 34=>some Tryz.f34
  | 92=>some Tryz.f92
  | 93=>some Tryz.f93
  | 32=>some Tryz.f32
  | 94=>some Tryz.f94
  | 70=>some Tryz.f70
  | 72=>some Tryz.f72
  | 71=>some Tryz.f71
  | 95=>some Tryz.f95
  | 96=>some Tryz.f96
  | 97=>some Tryz.f97
  | 98=>some Tryz.f98
  | 80=>some Tryz.f80
  | 90=>some Tryz.f90
  | 56=>some Tryz.f56
  | 82=>some Tryz.f82
  | 83=>some Tryz.f83
  | 84=>some Tryz.f84
  | 85=>some Tryz.f85
  | 86=>some Tryz.f86
  | 87=>some Tryz.f87
  | 88=>some Tryz.f88
  | 89=>some Tryz.f89
  | 69=>some Tryz.f69
  | 101=>some Tryz.f101
  | 102=>some Tryz.f102
  | 103=>some Tryz.f103
  | 104=>some Tryz.f104
  | 105=>some Tryz.f105
  | 36=>some Tryz.f36
  | 106=>some Tryz.f106
  | 107=>some Tryz.f107
  | 109=>some Tryz.f109
  | 108=>some Tryz.f108
  | 111=>some Tryz.f111
  | 110=>some Tryz.f110
  | 100=>some Tryz.f100
  | 99=>some Tryz.f99
  | 73=>some Tryz.f73
  | 74=>some Tryz.f74
  | 142=>some Tryz.f142
  | 143=>some Tryz.f143
  | 144=>some Tryz.f144
  | 68=>some Tryz.f68
  | 145=>some Tryz.f145
  | 113=>some Tryz.f113
  | 114=>some Tryz.f114
  | 146=>some Tryz.f146
  | 147=>some Tryz.f147
  | 148=>some Tryz.f148
  | 35=>some Tryz.f35
  | 149=>some Tryz.f149
  | 150=>some Tryz.f150
  | 151=>some Tryz.f151
  | 152=>some Tryz.f152
  | 153=>some Tryz.f153
  | 154=>some Tryz.f154
  | 155=>some Tryz.f155
  | 156=>some Tryz.f156
  | 37=>some Tryz.f37
  | 157=>some Tryz.f157
  | 158=>some Tryz.f158
  | 159=>some Tryz.f159
  | 130=>some Tryz.f130
  | 131=>some Tryz.f131
  | 134=>some Tryz.f134
  | 135=>some Tryz.f135
  | 136=>some Tryz.f136
  | 137=>some Tryz.f137
  | 138=>some Tryz.f138
  | 139=>some Tryz.f139
  | 140=>some Tryz.f140
  | 141=>some Tryz.f141
  | 91=>some Tryz.f91
  | 132=>some Tryz.f132
  | 133=>some Tryz.f133
  | 112=>some Tryz.f112
  | 161=>some Tryz.f161
  | 162=>some Tryz.f162
  | 163=>some Tryz.f163
  | 164=>some Tryz.f164
  | 166=>some Tryz.f166
  | 167=>some Tryz.f167
  | 76=>some Tryz.f76
  | 171=>some Tryz.f171
  | 170=>some Tryz.f170
  | 169=>some Tryz.f169
  | 118=>some Tryz.f118
  | 174=>some Tryz.f174
  | 175=>some Tryz.f175
  | 177=>some Tryz.f177
  | 176=>some Tryz.f176
  | 173=>some Tryz.f173
  | 172=>some Tryz.f172
  | 160=>some Tryz.f160
  | 78=>some Tryz.f78
  | 115=>some Tryz.f115
  | 117=>some Tryz.f117
  | 116=>some Tryz.f116
  | 193=>some Tryz.f193
  | 182=>some Tryz.f182
  | 194=>some Tryz.f194
  | 178=>some Tryz.f178
  | 195=>some Tryz.f195
  | 196=>some Tryz.f196
  | 197=>some Tryz.f197
  | 198=>some Tryz.f198
  | 200=>some Tryz.f200
  | 180=>some Tryz.f180
  | 179=>some Tryz.f179
  | 75=>some Tryz.f75
  | 202=>some Tryz.f202
  | 119=>some Tryz.f119
  | 183=>some Tryz.f183
  | 203=>some Tryz.f203
  | 204=>some Tryz.f204
  | 205=>some Tryz.f205
  | 207=>some Tryz.f207
  | 77=>some Tryz.f77
  | 208=>some Tryz.f208
  | 190=>some Tryz.f190
  | 185=>some Tryz.f185
  | 186=>some Tryz.f186
  | 191=>some Tryz.f191
  | 192=>some Tryz.f192
  | 189=>some Tryz.f189
  | 209=>some Tryz.f209
  | 210=>some Tryz.f210
  | 211=>some Tryz.f211
  | 212=>some Tryz.f212
  | 165=>some Tryz.f165
  | 213=>some Tryz.f213
  | 168=>some Tryz.f168
  | 215=>some Tryz.f215
  | 181=>some Tryz.f181
  | 217=>some Tryz.f217
  | 218=>some Tryz.f218
  | 216=>some Tryz.f216
  | 222=>some Tryz.f222
  | 223=>some Tryz.f223
  | 224=>some Tryz.f224
  | 225=>some Tryz.f225
  | 226=>some Tryz.f226
  | 227=>some Tryz.f227
  | 228=>some Tryz.f228
  | 121=>some Tryz.f121
  | 120=>some Tryz.f120
  | 221=>some Tryz.f221
  | 229=>some Tryz.f229
  | 231=>some Tryz.f231
  | 230=>some Tryz.f230
  | 232=>some Tryz.f232
  | 234=>some Tryz.f234
  | 233=>some Tryz.f233
  | 236=>some Tryz.f236
  | 235=>some Tryz.f235
  | 237=>some Tryz.f237
  | 214=>some Tryz.f214
  | 219=>some Tryz.f219
  | 239=>some Tryz.f239
  | 240=>some Tryz.f240
  | 241=>some Tryz.f241
  | 242=>some Tryz.f242
  | 243=>some Tryz.f243
  | 244=>some Tryz.f244
  | 245=>some Tryz.f245
  | 248=>some Tryz.f248
  | 247=>some Tryz.f247
  | 246=>some Tryz.f246
  | 238=>some Tryz.f238
  | 250=>some Tryz.f250
  | 252=>some Tryz.f252
  | 255=>some Tryz.f255
  | 254=>some Tryz.f254
  | 253=>some Tryz.f253
  | 257=>some Tryz.f257
  | 258=>some Tryz.f258
  | 259=>some Tryz.f259
  | 260=>some Tryz.f260
  | _=>none
theorem ftOk:Co.FtOk Tryz.prog ft:=by
  intro g fn h
  unfold ft at h
  split at h
  · injection h with h;subst h;exact⟨Tryz.func24,by kernel_rfl⟩
  · injection h with h;subst h;exact⟨Tryz.func30,by kernel_rfl⟩
  · injection h with h;subst h;exact⟨Tryz.func29,by kernel_rfl⟩
  · injection h with h;subst h;exact⟨Tryz.func22,by kernel_rfl⟩
  · injection h with h;subst h;exact⟨Tryz.func25,by kernel_rfl⟩
  · injection h with h;subst h;exact⟨Tryz.func59,by kernel_rfl⟩
  · injection h with h;subst h;exact⟨Tryz.func28,by kernel_rfl⟩
  · injection h with h;subst h;exact⟨Tryz.func27,by kernel_rfl⟩
  · injection h with h;subst h;exact⟨Tryz.func13,by kernel_rfl⟩
  · injection h with h;subst h;exact⟨Tryz.func31,by kernel_rfl⟩
  · injection h with h;subst h;exact⟨Tryz.func62,by kernel_rfl⟩
  · injection h with h;subst h;exact⟨Tryz.func63,by kernel_rfl⟩
  · injection h with h;subst h;exact⟨Tryz.func53,by kernel_rfl⟩
  · injection h with h;subst h;exact⟨Tryz.func54,by kernel_rfl⟩
  · injection h with h;subst h;exact⟨Tryz.func55,by kernel_rfl⟩
  · injection h with h;subst h;exact⟨Tryz.func57,by kernel_rfl⟩
  · injection h with h;subst h;exact⟨Tryz.func60,by kernel_rfl⟩
  · injection h with h;subst h;exact⟨Tryz.func61,by kernel_rfl⟩
  · injection h with h;subst h;exact⟨Tryz.func42,by kernel_rfl⟩
  · injection h with h;subst h;exact⟨Tryz.func43,by kernel_rfl⟩
  · injection h with h;subst h;exact⟨Tryz.func44,by kernel_rfl⟩
  · injection h with h;subst h;exact⟨Tryz.func45,by kernel_rfl⟩
  · injection h with h;subst h;exact⟨Tryz.func46,by kernel_rfl⟩
  · injection h with h;subst h;exact⟨Tryz.func47,by kernel_rfl⟩
  · injection h with h;subst h;exact⟨Tryz.func48,by kernel_rfl⟩
  · injection h with h;subst h;exact⟨Tryz.func64,by kernel_rfl⟩
  · injection h with h;subst h;exact⟨Tryz.func65,by kernel_rfl⟩
  · injection h with h;subst h;exact⟨Tryz.func33,by kernel_rfl⟩
  · injection h with h;subst h;exact⟨Tryz.func67,by kernel_rfl⟩
  · injection h with h;subst h;exact⟨Tryz.func66,by kernel_rfl⟩
  · injection h with h;subst h;exact⟨Tryz.func34,by kernel_rfl⟩
  · injection h with h;subst h;exact⟨Tryz.func92,by kernel_rfl⟩
  · injection h with h;subst h;exact⟨Tryz.func93,by kernel_rfl⟩
  · injection h with h;subst h;exact⟨Tryz.func32,by kernel_rfl⟩
  · injection h with h;subst h;exact⟨Tryz.func94,by kernel_rfl⟩
  · injection h with h;subst h;exact⟨Tryz.func70,by kernel_rfl⟩
  · injection h with h;subst h;exact⟨Tryz.func72,by kernel_rfl⟩
  · injection h with h;subst h;exact⟨Tryz.func71,by kernel_rfl⟩
  · injection h with h;subst h;exact⟨Tryz.func95,by kernel_rfl⟩
  · injection h with h;subst h;exact⟨Tryz.func96,by kernel_rfl⟩
  · injection h with h;subst h;exact⟨Tryz.func97,by kernel_rfl⟩
  · injection h with h;subst h;exact⟨Tryz.func98,by kernel_rfl⟩
  · injection h with h;subst h;exact⟨Tryz.func80,by kernel_rfl⟩
  · injection h with h;subst h;exact⟨Tryz.func90,by kernel_rfl⟩
  · injection h with h;subst h;exact⟨Tryz.func56,by kernel_rfl⟩
  · injection h with h;subst h;exact⟨Tryz.func82,by kernel_rfl⟩
  · injection h with h;subst h;exact⟨Tryz.func83,by kernel_rfl⟩
  · injection h with h;subst h;exact⟨Tryz.func84,by kernel_rfl⟩
  · injection h with h;subst h;exact⟨Tryz.func85,by kernel_rfl⟩
  · injection h with h;subst h;exact⟨Tryz.func86,by kernel_rfl⟩
  · injection h with h;subst h;exact⟨Tryz.func87,by kernel_rfl⟩
  · injection h with h;subst h;exact⟨Tryz.func88,by kernel_rfl⟩
  · injection h with h;subst h;exact⟨Tryz.func89,by kernel_rfl⟩
  · injection h with h;subst h;exact⟨Tryz.func69,by kernel_rfl⟩
  · injection h with h;subst h;exact⟨Tryz.func101,by kernel_rfl⟩
  · injection h with h;subst h;exact⟨Tryz.func102,by kernel_rfl⟩
  · injection h with h;subst h;exact⟨Tryz.func103,by kernel_rfl⟩
  · injection h with h;subst h;exact⟨Tryz.func104,by kernel_rfl⟩
  · injection h with h;subst h;exact⟨Tryz.func105,by kernel_rfl⟩
  · injection h with h;subst h;exact⟨Tryz.func36,by kernel_rfl⟩
  · injection h with h;subst h;exact⟨Tryz.func106,by kernel_rfl⟩
  · injection h with h;subst h;exact⟨Tryz.func107,by kernel_rfl⟩
  · injection h with h;subst h;exact⟨Tryz.func109,by kernel_rfl⟩
  · injection h with h;subst h;exact⟨Tryz.func108,by kernel_rfl⟩
  · injection h with h;subst h;exact⟨Tryz.func111,by kernel_rfl⟩
  · injection h with h;subst h;exact⟨Tryz.func110,by kernel_rfl⟩
  · injection h with h;subst h;exact⟨Tryz.func100,by kernel_rfl⟩
  · injection h with h;subst h;exact⟨Tryz.func99,by kernel_rfl⟩
  · injection h with h;subst h;exact⟨Tryz.func73,by kernel_rfl⟩
  · injection h with h;subst h;exact⟨Tryz.func74,by kernel_rfl⟩
  · injection h with h;subst h;exact⟨Tryz.func142,by kernel_rfl⟩
  · injection h with h;subst h;exact⟨Tryz.func143,by kernel_rfl⟩
  · injection h with h;subst h;exact⟨Tryz.func144,by kernel_rfl⟩
  · injection h with h;subst h;exact⟨Tryz.func68,by kernel_rfl⟩
  · injection h with h;subst h;exact⟨Tryz.func145,by kernel_rfl⟩
  · injection h with h;subst h;exact⟨Tryz.func113,by kernel_rfl⟩
  · injection h with h;subst h;exact⟨Tryz.func114,by kernel_rfl⟩
  · injection h with h;subst h;exact⟨Tryz.func146,by kernel_rfl⟩
  · injection h with h;subst h;exact⟨Tryz.func147,by kernel_rfl⟩
  · injection h with h;subst h;exact⟨Tryz.func148,by kernel_rfl⟩
  · injection h with h;subst h;exact⟨Tryz.func35,by kernel_rfl⟩
  · injection h with h;subst h;exact⟨Tryz.func149,by kernel_rfl⟩
  · injection h with h;subst h;exact⟨Tryz.func150,by kernel_rfl⟩
  · injection h with h;subst h;exact⟨Tryz.func151,by kernel_rfl⟩
  · injection h with h;subst h;exact⟨Tryz.func152,by kernel_rfl⟩
  · injection h with h;subst h;exact⟨Tryz.func153,by kernel_rfl⟩
  · injection h with h;subst h;exact⟨Tryz.func154,by kernel_rfl⟩
  · injection h with h;subst h;exact⟨Tryz.func155,by kernel_rfl⟩
  · injection h with h;subst h;exact⟨Tryz.func156,by kernel_rfl⟩
  · injection h with h;subst h;exact⟨Tryz.func37,by kernel_rfl⟩
  · injection h with h;subst h;exact⟨Tryz.func157,by kernel_rfl⟩
  · injection h with h;subst h;exact⟨Tryz.func158,by kernel_rfl⟩
  · injection h with h;subst h;exact⟨Tryz.func159,by kernel_rfl⟩
  · injection h with h;subst h;exact⟨Tryz.func130,by kernel_rfl⟩
  · injection h with h;subst h;exact⟨Tryz.func131,by kernel_rfl⟩
  · injection h with h;subst h;exact⟨Tryz.func134,by kernel_rfl⟩
  · injection h with h;subst h;exact⟨Tryz.func135,by kernel_rfl⟩
  · injection h with h;subst h;exact⟨Tryz.func136,by kernel_rfl⟩
  · injection h with h;subst h;exact⟨Tryz.func137,by kernel_rfl⟩
  · injection h with h;subst h;exact⟨Tryz.func138,by kernel_rfl⟩
  · injection h with h;subst h;exact⟨Tryz.func139,by kernel_rfl⟩
  · injection h with h;subst h;exact⟨Tryz.func140,by kernel_rfl⟩
  · injection h with h;subst h;exact⟨Tryz.func141,by kernel_rfl⟩
  · injection h with h;subst h;exact⟨Tryz.func91,by kernel_rfl⟩
  · injection h with h;subst h;exact⟨Tryz.func132,by kernel_rfl⟩
  · injection h with h;subst h;exact⟨Tryz.func133,by kernel_rfl⟩
  · injection h with h;subst h;exact⟨Tryz.func112,by kernel_rfl⟩
  · injection h with h;subst h;exact⟨Tryz.func161,by kernel_rfl⟩
  · injection h with h;subst h;exact⟨Tryz.func162,by kernel_rfl⟩
  · injection h with h;subst h;exact⟨Tryz.func163,by kernel_rfl⟩
  · injection h with h;subst h;exact⟨Tryz.func164,by kernel_rfl⟩
  · injection h with h;subst h;exact⟨Tryz.func166,by kernel_rfl⟩
  · injection h with h;subst h;exact⟨Tryz.func167,by kernel_rfl⟩
  · injection h with h;subst h;exact⟨Tryz.func76,by kernel_rfl⟩
  · injection h with h;subst h;exact⟨Tryz.func171,by kernel_rfl⟩
  · injection h with h;subst h;exact⟨Tryz.func170,by kernel_rfl⟩
  · injection h with h;subst h;exact⟨Tryz.func169,by kernel_rfl⟩
  · injection h with h;subst h;exact⟨Tryz.func118,by kernel_rfl⟩
  · injection h with h;subst h;exact⟨Tryz.func174,by kernel_rfl⟩
  · injection h with h;subst h;exact⟨Tryz.func175,by kernel_rfl⟩
  · injection h with h;subst h;exact⟨Tryz.func177,by kernel_rfl⟩
  · injection h with h;subst h;exact⟨Tryz.func176,by kernel_rfl⟩
  · injection h with h;subst h;exact⟨Tryz.func173,by kernel_rfl⟩
  · injection h with h;subst h;exact⟨Tryz.func172,by kernel_rfl⟩
  · injection h with h;subst h;exact⟨Tryz.func160,by kernel_rfl⟩
  · injection h with h;subst h;exact⟨Tryz.func78,by kernel_rfl⟩
  · injection h with h;subst h;exact⟨Tryz.func115,by kernel_rfl⟩
  · injection h with h;subst h;exact⟨Tryz.func117,by kernel_rfl⟩
  · injection h with h;subst h;exact⟨Tryz.func116,by kernel_rfl⟩
  · injection h with h;subst h;exact⟨Tryz.func193,by kernel_rfl⟩
  · injection h with h;subst h;exact⟨Tryz.func182,by kernel_rfl⟩
  · injection h with h;subst h;exact⟨Tryz.func194,by kernel_rfl⟩
  · injection h with h;subst h;exact⟨Tryz.func178,by kernel_rfl⟩
  · injection h with h;subst h;exact⟨Tryz.func195,by kernel_rfl⟩
  · injection h with h;subst h;exact⟨Tryz.func196,by kernel_rfl⟩
  · injection h with h;subst h;exact⟨Tryz.func197,by kernel_rfl⟩
  · injection h with h;subst h;exact⟨Tryz.func198,by kernel_rfl⟩
  · injection h with h;subst h;exact⟨Tryz.func200,by kernel_rfl⟩
  · injection h with h;subst h;exact⟨Tryz.func180,by kernel_rfl⟩
  · injection h with h;subst h;exact⟨Tryz.func179,by kernel_rfl⟩
  · injection h with h;subst h;exact⟨Tryz.func75,by kernel_rfl⟩
  · injection h with h;subst h;exact⟨Tryz.func202,by kernel_rfl⟩
  · injection h with h;subst h;exact⟨Tryz.func119,by kernel_rfl⟩
  · injection h with h;subst h;exact⟨Tryz.func183,by kernel_rfl⟩
  · injection h with h;subst h;exact⟨Tryz.func203,by kernel_rfl⟩
  · injection h with h;subst h;exact⟨Tryz.func204,by kernel_rfl⟩
  · injection h with h;subst h;exact⟨Tryz.func205,by kernel_rfl⟩
  · injection h with h;subst h;exact⟨Tryz.func207,by kernel_rfl⟩
  · injection h with h;subst h;exact⟨Tryz.func77,by kernel_rfl⟩
  · injection h with h;subst h;exact⟨Tryz.func208,by kernel_rfl⟩
  · injection h with h;subst h;exact⟨Tryz.func190,by kernel_rfl⟩
  · injection h with h;subst h;exact⟨Tryz.func185,by kernel_rfl⟩
  · injection h with h;subst h;exact⟨Tryz.func186,by kernel_rfl⟩
  · injection h with h;subst h;exact⟨Tryz.func191,by kernel_rfl⟩
  · injection h with h;subst h;exact⟨Tryz.func192,by kernel_rfl⟩
  · injection h with h;subst h;exact⟨Tryz.func189,by kernel_rfl⟩
  · injection h with h;subst h;exact⟨Tryz.func209,by kernel_rfl⟩
  · injection h with h;subst h;exact⟨Tryz.func210,by kernel_rfl⟩
  · injection h with h;subst h;exact⟨Tryz.func211,by kernel_rfl⟩
  · injection h with h;subst h;exact⟨Tryz.func212,by kernel_rfl⟩
  · injection h with h;subst h;exact⟨Tryz.func165,by kernel_rfl⟩
  · injection h with h;subst h;exact⟨Tryz.func213,by kernel_rfl⟩
  · injection h with h;subst h;exact⟨Tryz.func168,by kernel_rfl⟩
  · injection h with h;subst h;exact⟨Tryz.func215,by kernel_rfl⟩
  · injection h with h;subst h;exact⟨Tryz.func181,by kernel_rfl⟩
  · injection h with h;subst h;exact⟨Tryz.func217,by kernel_rfl⟩
  · injection h with h;subst h;exact⟨Tryz.func218,by kernel_rfl⟩
  · injection h with h;subst h;exact⟨Tryz.func216,by kernel_rfl⟩
  · injection h with h;subst h;exact⟨Tryz.func222,by kernel_rfl⟩
  · injection h with h;subst h;exact⟨Tryz.func223,by kernel_rfl⟩
  · injection h with h;subst h;exact⟨Tryz.func224,by kernel_rfl⟩
  · injection h with h;subst h;exact⟨Tryz.func225,by kernel_rfl⟩
  · injection h with h;subst h;exact⟨Tryz.func226,by kernel_rfl⟩
  · injection h with h;subst h;exact⟨Tryz.func227,by kernel_rfl⟩
  · injection h with h;subst h;exact⟨Tryz.func228,by kernel_rfl⟩
  · injection h with h;subst h;exact⟨Tryz.func121,by kernel_rfl⟩
  · injection h with h;subst h;exact⟨Tryz.func120,by kernel_rfl⟩
  · injection h with h;subst h;exact⟨Tryz.func221,by kernel_rfl⟩
  · injection h with h;subst h;exact⟨Tryz.func229,by kernel_rfl⟩
  · injection h with h;subst h;exact⟨Tryz.func231,by kernel_rfl⟩
  · injection h with h;subst h;exact⟨Tryz.func230,by kernel_rfl⟩
  · injection h with h;subst h;exact⟨Tryz.func232,by kernel_rfl⟩
  · injection h with h;subst h;exact⟨Tryz.func234,by kernel_rfl⟩
  · injection h with h;subst h;exact⟨Tryz.func233,by kernel_rfl⟩
  · injection h with h;subst h;exact⟨Tryz.func236,by kernel_rfl⟩
  · injection h with h;subst h;exact⟨Tryz.func235,by kernel_rfl⟩
  · injection h with h;subst h;exact⟨Tryz.func237,by kernel_rfl⟩
  · injection h with h;subst h;exact⟨Tryz.func214,by kernel_rfl⟩
  · injection h with h;subst h;exact⟨Tryz.func219,by kernel_rfl⟩
  · injection h with h;subst h;exact⟨Tryz.func239,by kernel_rfl⟩
  · injection h with h;subst h;exact⟨Tryz.func240,by kernel_rfl⟩
  · injection h with h;subst h;exact⟨Tryz.func241,by kernel_rfl⟩
  · injection h with h;subst h;exact⟨Tryz.func242,by kernel_rfl⟩
  · injection h with h;subst h;exact⟨Tryz.func243,by kernel_rfl⟩
  · injection h with h;subst h;exact⟨Tryz.func244,by kernel_rfl⟩
  · injection h with h;subst h;exact⟨Tryz.func245,by kernel_rfl⟩
  · injection h with h;subst h;exact⟨Tryz.func248,by kernel_rfl⟩
  · injection h with h;subst h;exact⟨Tryz.func247,by kernel_rfl⟩
  · injection h with h;subst h;exact⟨Tryz.func246,by kernel_rfl⟩
  · injection h with h;subst h;exact⟨Tryz.func238,by kernel_rfl⟩
  · injection h with h;subst h;exact⟨Tryz.func250,by kernel_rfl⟩
  · injection h with h;subst h;exact⟨Tryz.func252,by kernel_rfl⟩
  · injection h with h;subst h;exact⟨Tryz.func255,by kernel_rfl⟩
  · injection h with h;subst h;exact⟨Tryz.func254,by kernel_rfl⟩
  · injection h with h;subst h;exact⟨Tryz.func253,by kernel_rfl⟩
  · injection h with h;subst h;exact⟨Tryz.func257,by kernel_rfl⟩
  · injection h with h;subst h;exact⟨Tryz.func258,by kernel_rfl⟩
  · injection h with h;subst h;exact⟨Tryz.func259,by kernel_rfl⟩
  · injection h with h;subst h;exact⟨Tryz.func260,by kernel_rfl⟩
  · exact nomatch h
noncomputable def xt:FuncId→Option (Array Value→Sem Value)
  | 249=>some Extern.BytealgIndexByte.indexByte
  | 251=>some Extern.BytealgCount.count
  | _=>none
theorem xtOk:Co.XtOk Tryz.prog xt:=by
  intro g e h
  unfold xt at h
  split at h
  · injection h with h;subst h;exact⟨Tryz.f249,Tryz.func249,by kernel_rfl,by kernel_rfl,by kernel_rfl,by kernel_rfl⟩
  · injection h with h;subst h;exact⟨Tryz.f251,Tryz.func251,by kernel_rfl,by kernel_rfl,by kernel_rfl,by kernel_rfl⟩
  · exact nomatch h
end Aw16
end Go.Proofs.YtemhlkdingkjnaaGreatDoor
namespace Go.Proofs.YtemhlkdingkjnaaGreatDoor
open Go Go.Proofs
namespace Aw16
theorem runs (w:World):Calls Tryz.prog 24 #[] w λen w'=>en = .returned (.bool true)∧Va.Grow w w':=
  Co.run_says mixed tabIs xtOk ftOk (N:=1000) (d:=60) (by kernel_rfl) w
end Aw16
end Go.Proofs.YtemhlkdingkjnaaGreatDoor
