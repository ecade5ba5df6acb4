/-
  The table of types, and the simplest facts by a run with known values.
-/
import Derived.Test.YtemhlkdingkjnaaGreatDoorVaTab
import Derived.Test.YtemhlkdingkjnaaGreatDoorChecked
import Derived.Lib.LaidU8T
import Derived.Test.YtemhlkdingkjnaaGreatDoorCoEnd
set_option linter.unusedVariables false
set_option linter.unusedSimpArgs false
namespace Go.Proofs.YtemhlkdingkjnaaGreatDoor
open Go Go.Va Go.Proofs
abbrev yar:Ty:=(.pair .str (.pair .str .unit))
abbrev yaI:Type:=ByteArray×ByteArray×Unit
abbrev T_runtime_errorAddressString:Ty:=(.pair .str (.pair (.int .u64) .unit))
abbrev yc6:Ty:=(.pair (.int .u8) (.pair (.int .u8) .unit))
abbrev yce:Ty:=(.pair (.int .i64) (.pair (.int .u8) .unit))
abbrev ya2:Type:=Int×Int×Unit
abbrev ya4:Ty:=(.pair (.int .i64) (.pair (.int .i64) .unit))
abbrev ycH:Type:=Int×Int×Unit
abbrev yax:Ty:=(.pair .str T_runtime_errorAddressString)
abbrev ybc:Type:=ByteArray×ByteArray×Int×Unit
abbrev ycs:Ty:=(.pair (.int .i64) (.pair (.int .i64) (.pair .bool .unit)))
abbrev yc7:Type:=Int×Int×Bool×Unit
abbrev yaC:Ty:=(.pair .bool (.pair .str yar))
abbrev yaH:Type:=Bool×ByteArray×ByteArray×ByteArray×Unit
abbrev T_count_says:Ty:=(.pair (.int .u64) (.pair (.int .i64) (.pair (.arr 32 (.int .u8)) .unit)))
abbrev T_count_Use:Ty:=(.pair (.int .u64) (.pair (.int .i64) (.pair (.int .i64) (.pair (.arr 32 (.int .u8)) .unit))))
abbrev yaK:Ty:=(.pair (.int .i64) (.pair (.int .i64) (.pair (.int .u64) (.pair (.arr 32 (.int .u8)) .unit))))
abbrev yaJ:Type:=Int×Int×Int×(List (Int))×Unit
abbrev yav:Ty:=(.pair .str (.pair (.slice yar) ycs))
abbrev yaE:Type:=ByteArray×(List (yaI))×Int×Int×Bool×Unit
abbrev yal:Ty:=(.pair (.int .u64) (.pair .str (.pair (.slice yar) (.pair (.slice yaK) .unit))))
abbrev yan:Type:=Int×ByteArray×(List (yaI))×(List (yaJ))×Unit
abbrev yae:Ty:=(.pair (.int .u64) (.pair .bool (.pair (.int .i64) (.pair (.int .u64) (.pair (.arr 32 (.int .u8)) (.pair (.int .i64) (.pair ycs (.pair (.slice yar) .unit))))))))
abbrev yak:Type:=Int×Bool×Int×Int×(List (Int))×Int×yc7×(List (yaI))×Unit
abbrev yag:Ty:=(.pair .str (.pair (.slice yae) .unit))
abbrev yad:Type:=ByteArray×(List (yak))×Unit
abbrev yaB:Ty:=(.pair .str (.pair .str (.pair yae (.pair yal .unit))))
abbrev D_ref15_Row:Type:=ByteArray×ByteArray×yak×yan×Unit
abbrev yaa:Ty:=(.pair .str (.pair ya4 (.pair (.slice yav) (.pair (.slice yaC) (.pair (.slice yag) (.pair (.slice yal) .unit))))))
abbrev yab:Type:=ByteArray×ycH×(List (yaE))×(List (yaH))×(List (yad))×(List (yan))×Unit
abbrev T_api_Entry:Ty:=(.pair (.int .i64) (.pair (.int .i64) (.pair .str (.pair .str (.pair (.int .u64) (.pair yae (.pair ycs (.pair (.slice yar) (.pair ya4 (.pair (.slice yav) (.pair (.slice yaC) (.pair yaK .unit))))))))))))
abbrev yah:Ty:=(.pair (.int .i64) (.pair (.int .u64) (.pair (.int .u64) (.pair (.slice yaa) .unit))))
abbrev yaf:Type:=Int×Int×Int×(List (yab))×Unit
abbrev T_meta_draft:Ty:=(.pair yah .unit)
abbrev ycu:Ty:=(.pair yah (.pair (.int .i64) (.pair (.mapT (.int .u64) .bool) .unit)))
abbrev yao:Type:=yaf×Int×(List (Int×Bool))×Unit
abbrev yaR:Ty:=(.pair (.int .i64) (.pair (.int .u64) (.pair (.int .u64) (.pair (.slice yaa) (.pair (.slice yaB) (.pair (.slice yaB) .unit))))))
abbrev yaz:Type:=Int×Int×Int×(List (yab))×(List (D_ref15_Row))×(List (D_ref15_Row))×Unit
noncomputable def tab:List (Nat×TE):=[(2,⟨(.int .i64),0⟩),(3,⟨(.int .i64),0⟩),(4,⟨.bool,0⟩),(5,⟨(.int .u8),0⟩),(9,⟨.str,0⟩),(12,⟨(.int .u64),0⟩),(21,⟨(.int .i32),0⟩),(22,⟨(.int .u64),0⟩),(23,⟨(.slice yaa),128⟩),(24,⟨yah,0⟩),(25,⟨yah,0⟩),(26,⟨yax,0⟩),(27,⟨yax,0⟩),(30,⟨ya4,0⟩),(31,⟨ya4,0⟩),(32,⟨(.slice yav),64⟩),(33,⟨(.slice yaC),56⟩),(34,⟨(.slice yag),40⟩),(35,⟨(.slice yal),72⟩),(36,⟨yaa,0⟩),(37,⟨yaa,0⟩),(38,⟨(.int .i64),0⟩),(41,⟨(.slice yae),120⟩),(42,⟨yag,0⟩),(43,⟨yag,0⟩),(46,⟨(.arr 32 (.int .u8)),0⟩),(47,⟨(.arr 32 (.int .u8)),0⟩),(48,⟨ycs,0⟩),(49,⟨ycs,0⟩),(50,⟨(.slice yar),32⟩),(51,⟨yae,0⟩),(52,⟨yae,0⟩),(55,⟨(.slice yax),40⟩),(57,⟨(.slice yaB),224⟩),(58,⟨yaR,0⟩),(59,⟨yaR,0⟩),(69,⟨(.slice yaK),56⟩),(70,⟨yal,0⟩),(71,⟨yal,0⟩),(72,⟨yaB,0⟩),(73,⟨yaB,0⟩),(75,⟨(.slice T_count_Use),56⟩),(77,⟨(.slice T_count_Use),56⟩),(79,⟨T_count_Use,0⟩),(80,⟨T_count_Use,0⟩),(81,⟨T_count_Use,0⟩),(83,⟨(.slice (.int .u64)),8⟩),(92,⟨yaK,0⟩),(93,⟨yaK,0⟩),(94,⟨T_api_Entry,0⟩),(95,⟨T_api_Entry,0⟩),(98,⟨(.opq 1),0⟩),(101,⟨(.opq 1),0⟩),(103,⟨(.mapT yax yae),0⟩),(113,⟨(.opq 1),0⟩),(120,⟨(.slice T_count_says),48⟩),(122,⟨T_count_says,0⟩),(123,⟨T_count_says,0⟩),(126,⟨(.opq 1),0⟩),(131,⟨(.mapT (.int .u64) .bool),0⟩),(132,⟨(.slice T_api_Entry),344⟩),(133,⟨(.opq 0),0⟩),(135,⟨T_meta_draft,0⟩),(136,⟨T_meta_draft,0⟩),(139,⟨(.opq 0),0⟩),(140,⟨ycu,0⟩),(141,⟨ycu,0⟩),(143,⟨(.opq 1),0⟩),(147,⟨yaC,0⟩),(148,⟨yaC,0⟩),(155,⟨(.int .u64),0⟩),(158,⟨yav,0⟩),(159,⟨yav,0⟩),(162,⟨(.opq 1),0⟩),(163,⟨yar,0⟩),(164,⟨yar,0⟩),(171,⟨(.opq 0),0⟩),(176,⟨(.opq 1),0⟩),(179,⟨(.opq 1),0⟩),(184,⟨(.opq 1),0⟩),(193,⟨(.int .u32),0⟩),(195,⟨(.slice (.int .i64)),8⟩),(196,⟨(.slice yce),16⟩),(218,⟨(.opq 1),0⟩),(225,⟨(.opq 1),0⟩),(227,⟨(.opq 1),0⟩),(230,⟨(.int .u64),0⟩),(234,⟨(.opq 0),0⟩),(236,⟨yce,0⟩),(237,⟨yce,0⟩),(249,⟨(.slice .str),16⟩),(255,⟨(.slice yce),16⟩),(262,⟨(.slice (.int .u8)),1⟩),(268,⟨(.opq 1),0⟩),(272,⟨(.arr 256 .bool),0⟩),(273,⟨(.arr 256 .bool),0⟩),(277,⟨(.opq 0),0⟩),(278,⟨yce,0⟩),(279,⟨yce,0⟩),(281,⟨(.arr 256 (.int .u8)),0⟩),(282,⟨yc6,0⟩),(283,⟨yc6,0⟩),(284,⟨(.arr 16 yc6),0⟩)]
noncomputable def firstCells:List Value:=Lib.firstTab.map λz=>Value.int .u8 z
noncomputable def ydv:List Value:=(List.range 16).flatMap λi=>[Value.int .u8 (Lib.accLo i),Value.int .u8 (Lib.accHi i)]
noncomputable instance:Gl:=⟨[(0,λcs=>cs=firstCells),(1,λcs=>cs=ydv),(2,λcs=>∃ m,cs=[.int .i64 m])],[]⟩
theorem tabIs:TabOk Tryz.prog tab:=tabB_ok (by kernel_rfl)
theorem mixed:Tryz.prog.follows .mixedOrders=true:=Tryz.checked.mixed
end Go.Proofs.YtemhlkdingkjnaaGreatDoor
namespace Go.Proofs.YtemhlkdingkjnaaGreatDoor
open Go Go.Proofs
namespace Aw15
set_option maxRecDepth 100000
set_option maxHeartbeats 4000000
noncomputable def ft:FuncId→Option Func
  | 8=>some Tryz.f8
  | 30=>some Tryz.f30
  | 29=>some Tryz.f29
  | 11=>some Tryz.f11
  | 31=>some Tryz.f31
  | 62=>some Tryz.f62
  | 63=>some Tryz.f63
  | 10=>some Tryz.f10
  | 37=>some Tryz.f37
  | 64=>some Tryz.f64
  | 65=>some Tryz.f65
  | 33=>some Tryz.f33
  | 67=>some Tryz.f67
  | 66=>some Tryz.f66
  | 34=>some Tryz.f34
  | 92=>some Tryz.f92
  | 93=>some Tryz.f93
  | 32=>some Tryz.f32
  | 94=>some Tryz.f94
  | 70=>some Tryz.f70
  | 72=>some Tryz.f72
  | 71=>some Tryz.f71
  | 95=>some Tryz.f95
  | 96=>some Tryz.f96
  | 97=>some Tryz.f97
  | 98=>some Tryz.f98
  | 9=>some Tryz.f9
  | 35=>some Tryz.f35
  | 36=>some Tryz.f36
  | 76=>some Tryz.f76
  | 77=>some Tryz.f77
  | 78=>some Tryz.f78
  | 69=>some Tryz.f69
  | 101=>some Tryz.f101
  | 102=>some Tryz.f102
  | 103=>some Tryz.f103
  | 104=>some Tryz.f104
  | 105=>some Tryz.f105
  | 106=>some Tryz.f106
  | 107=>some Tryz.f107
  | 109=>some Tryz.f109
  | 108=>some Tryz.f108
  | 111=>some Tryz.f111
  | 110=>some Tryz.f110
  | 100=>some Tryz.f100
  | 99=>some Tryz.f99
  | 73=>some Tryz.f73
  | 74=>some Tryz.f74
  | 142=>some Tryz.f142
  | 143=>some Tryz.f143
  | 144=>some Tryz.f144
  | 68=>some Tryz.f68
  | 145=>some Tryz.f145
  | 113=>some Tryz.f113
  | 114=>some Tryz.f114
  | 146=>some Tryz.f146
  | 147=>some Tryz.f147
  | 148=>some Tryz.f148
  | 149=>some Tryz.f149
  | 150=>some Tryz.f150
  | 151=>some Tryz.f151
  | 152=>some Tryz.f152
  | 153=>some Tryz.f153
  | 154=>some Tryz.f154
  | 155=>some Tryz.f155
  | 156=>some Tryz.f156
  | 157=>some Tryz.f157
  | 158=>some Tryz.f158
  | 159=>some Tryz.f159
  | 75=>some Tryz.f75
  | 118=>some Tryz.f118
  | 119=>some Tryz.f119
  | 121=>some Tryz.f121
  | 120=>some Tryz.f120
  | 112=>some Tryz.f112
  | 161=>some Tryz.f161
  | 162=>some Tryz.f162
  | 163=>some Tryz.f163
  | 164=>some Tryz.f164
  | 166=>some Tryz.f166
  | 167=>some Tryz.f167
  | 56=>some Tryz.f56
  | 171=>some Tryz.f171
  | 170=>some Tryz.f170
  | 169=>some Tryz.f169
  | 174=>some Tryz.f174
  | 175=>some Tryz.f175
  | 177=>some Tryz.f177
  | 176=>some Tryz.f176
  | 173=>some Tryz.f173
  | 172=>some Tryz.f172
  | 160=>some Tryz.f160
  | 115=>some Tryz.f115
  | 117=>some Tryz.f117
  | 116=>some Tryz.f116
  | 193=>some Tryz.f193
  | 182=>some Tryz.f182
  | 194=>some Tryz.f194
  | 178=>some Tryz.f178
  | 195=>some Tryz.f195
  | 196=>some Tryz.f196
  | 197=>some Tryz.f197
  | 198=>some Tryz.f198
  | 200=>some Tryz.f200
  | 180=>some Tryz.f180
  | 179=>some Tryz.f179
  | 202=>some Tryz.f202
  | 183=>some Tryz.f183
  | 203=>some Tryz.f203
  | 204=>some Tryz.f204
  | 205=>some Tryz.f205
  | 207=>some Tryz.f207
  | 208=>some Tryz.f208
  | 181=>some Tryz.f181
  | 209=>some Tryz.f209
  | 210=>some Tryz.f210
  | 211=>some Tryz.f211
  | 212=>some Tryz.f212
  | 165=>some Tryz.f165
  | 213=>some Tryz.f213
  | 168=>some Tryz.f168
  | 91=>some Tryz.f91
  | 215=>some Tryz.f215
  | 217=>some Tryz.f217
  | 218=>some Tryz.f218
  | 216=>some Tryz.f216
  | 222=>some Tryz.f222
  | 223=>some Tryz.f223
  | 224=>some Tryz.f224
  | 225=>some Tryz.f225
  | 226=>some Tryz.f226
  | 227=>some Tryz.f227
  | 228=>some Tryz.f228
  | 219=>some Tryz.f219
  | 229=>some Tryz.f229
  | 231=>some Tryz.f231
  | 230=>some Tryz.f230
  | 232=>some Tryz.f232
  | 234=>some Tryz.f234
  | 233=>some Tryz.f233
  | 236=>some Tryz.f236
  | 235=>some Tryz.f235
  | 237=>some Tryz.f237
  | 214=>some Tryz.f214
  | 239=>some Tryz.f239
  | 240=>some Tryz.f240
  | 241=>some Tryz.f241
  | 238=>some Tryz.f238
  | 242=>some Tryz.f242
  | 243=>some Tryz.f243
  | 244=>some Tryz.f244
  | 245=>some Tryz.f245
  | 248=>some Tryz.f248
  | 247=>some Tryz.f247
  | 246=>some Tryz.f246
  | 250=>some Tryz.f250
  | 252=>some Tryz.f252
  | 255=>some Tryz.f255
  | 254=>some Tryz.f254
  | 253=>some Tryz.f253
  | 257=>some Tryz.f257
  | 258=>some Tryz.f258
  | 259=>some Tryz.f259
  | 260=>some Tryz.f260
  | _=>none
theorem ftOk:Co.FtOk Tryz.prog ft:=by
  intro g fn h
  unfold ft at h
  split at h
  · injection h with h;subst h;exact⟨Tryz.func8,by kernel_rfl⟩
  · injection h with h;subst h;exact⟨Tryz.func30,by kernel_rfl⟩
  · injection h with h;subst h;exact⟨Tryz.func29,by kernel_rfl⟩
  · injection h with h;subst h;exact⟨Tryz.func11,by kernel_rfl⟩
  · injection h with h;subst h;exact⟨Tryz.func31,by kernel_rfl⟩
  · injection h with h;subst h;exact⟨Tryz.func62,by kernel_rfl⟩
  · injection h with h;subst h;exact⟨Tryz.func63,by kernel_rfl⟩
  · injection h with h;subst h;exact⟨Tryz.func10,by kernel_rfl⟩
  · injection h with h;subst h;exact⟨Tryz.func37,by kernel_rfl⟩
  · injection h with h;subst h;exact⟨Tryz.func64,by kernel_rfl⟩
  · injection h with h;subst h;exact⟨Tryz.func65,by kernel_rfl⟩
  · injection h with h;subst h;exact⟨Tryz.func33,by kernel_rfl⟩
  · injection h with h;subst h;exact⟨Tryz.func67,by kernel_rfl⟩
  · injection h with h;subst h;exact⟨Tryz.func66,by kernel_rfl⟩
  · injection h with h;subst h;exact⟨Tryz.func34,by kernel_rfl⟩
  · injection h with h;subst h;exact⟨Tryz.func92,by kernel_rfl⟩
  · injection h with h;subst h;exact⟨Tryz.func93,by kernel_rfl⟩
  · injection h with h;subst h;exact⟨Tryz.func32,by kernel_rfl⟩
  · injection h with h;subst h;exact⟨Tryz.func94,by kernel_rfl⟩
  · injection h with h;subst h;exact⟨Tryz.func70,by kernel_rfl⟩
  · injection h with h;subst h;exact⟨Tryz.func72,by kernel_rfl⟩
  · injection h with h;subst h;exact⟨Tryz.func71,by kernel_rfl⟩
  · injection h with h;subst h;exact⟨Tryz.func95,by kernel_rfl⟩
  · injection h with h;subst h;exact⟨Tryz.func96,by kernel_rfl⟩
  · injection h with h;subst h;exact⟨Tryz.func97,by kernel_rfl⟩
  · injection h with h;subst h;exact⟨Tryz.func98,by kernel_rfl⟩
  · injection h with h;subst h;exact⟨Tryz.func9,by kernel_rfl⟩
  · injection h with h;subst h;exact⟨Tryz.func35,by kernel_rfl⟩
  · injection h with h;subst h;exact⟨Tryz.func36,by kernel_rfl⟩
  · injection h with h;subst h;exact⟨Tryz.func76,by kernel_rfl⟩
  · injection h with h;subst h;exact⟨Tryz.func77,by kernel_rfl⟩
  · injection h with h;subst h;exact⟨Tryz.func78,by kernel_rfl⟩
  · injection h with h;subst h;exact⟨Tryz.func69,by kernel_rfl⟩
  · injection h with h;subst h;exact⟨Tryz.func101,by kernel_rfl⟩
  · injection h with h;subst h;exact⟨Tryz.func102,by kernel_rfl⟩
  · injection h with h;subst h;exact⟨Tryz.func103,by kernel_rfl⟩
  · injection h with h;subst h;exact⟨Tryz.func104,by kernel_rfl⟩
  · injection h with h;subst h;exact⟨Tryz.func105,by kernel_rfl⟩
  · injection h with h;subst h;exact⟨Tryz.func106,by kernel_rfl⟩
  · injection h with h;subst h;exact⟨Tryz.func107,by kernel_rfl⟩
  · injection h with h;subst h;exact⟨Tryz.func109,by kernel_rfl⟩
  · injection h with h;subst h;exact⟨Tryz.func108,by kernel_rfl⟩
  · injection h with h;subst h;exact⟨Tryz.func111,by kernel_rfl⟩
  · injection h with h;subst h;exact⟨Tryz.func110,by kernel_rfl⟩
  · injection h with h;subst h;exact⟨Tryz.func100,by kernel_rfl⟩
  · injection h with h;subst h;exact⟨Tryz.func99,by kernel_rfl⟩
  · injection h with h;subst h;exact⟨Tryz.func73,by kernel_rfl⟩
  · injection h with h;subst h;exact⟨Tryz.func74,by kernel_rfl⟩
  · injection h with h;subst h;exact⟨Tryz.func142,by kernel_rfl⟩
  · injection h with h;subst h;exact⟨Tryz.func143,by kernel_rfl⟩
  · injection h with h;subst h;exact⟨Tryz.func144,by kernel_rfl⟩
  · injection h with h;subst h;exact⟨Tryz.func68,by kernel_rfl⟩
  · injection h with h;subst h;exact⟨Tryz.func145,by kernel_rfl⟩
  · injection h with h;subst h;exact⟨Tryz.func113,by kernel_rfl⟩
  · injection h with h;subst h;exact⟨Tryz.func114,by kernel_rfl⟩
  · injection h with h;subst h;exact⟨Tryz.func146,by kernel_rfl⟩
  · injection h with h;subst h;exact⟨Tryz.func147,by kernel_rfl⟩
  · injection h with h;subst h;exact⟨Tryz.func148,by kernel_rfl⟩
  · injection h with h;subst h;exact⟨Tryz.func149,by kernel_rfl⟩
  · injection h with h;subst h;exact⟨Tryz.func150,by kernel_rfl⟩
  · injection h with h;subst h;exact⟨Tryz.func151,by kernel_rfl⟩
  · injection h with h;subst h;exact⟨Tryz.func152,by kernel_rfl⟩
  · injection h with h;subst h;exact⟨Tryz.func153,by kernel_rfl⟩
  · injection h with h;subst h;exact⟨Tryz.func154,by kernel_rfl⟩
  · injection h with h;subst h;exact⟨Tryz.func155,by kernel_rfl⟩
  · injection h with h;subst h;exact⟨Tryz.func156,by kernel_rfl⟩
  · injection h with h;subst h;exact⟨Tryz.func157,by kernel_rfl⟩
  · injection h with h;subst h;exact⟨Tryz.func158,by kernel_rfl⟩
  · injection h with h;subst h;exact⟨Tryz.func159,by kernel_rfl⟩
  · injection h with h;subst h;exact⟨Tryz.func75,by kernel_rfl⟩
  · injection h with h;subst h;exact⟨Tryz.func118,by kernel_rfl⟩
  · injection h with h;subst h;exact⟨Tryz.func119,by kernel_rfl⟩
  · injection h with h;subst h;exact⟨Tryz.func121,by kernel_rfl⟩
  · injection h with h;subst h;exact⟨Tryz.func120,by kernel_rfl⟩
  · injection h with h;subst h;exact⟨Tryz.func112,by kernel_rfl⟩
  · injection h with h;subst h;exact⟨Tryz.func161,by kernel_rfl⟩
  · injection h with h;subst h;exact⟨Tryz.func162,by kernel_rfl⟩
  · injection h with h;subst h;exact⟨Tryz.func163,by kernel_rfl⟩
  · injection h with h;subst h;exact⟨Tryz.func164,by kernel_rfl⟩
  · injection h with h;subst h;exact⟨Tryz.func166,by kernel_rfl⟩
  · injection h with h;subst h;exact⟨Tryz.func167,by kernel_rfl⟩
  · injection h with h;subst h;exact⟨Tryz.func56,by kernel_rfl⟩
  · injection h with h;subst h;exact⟨Tryz.func171,by kernel_rfl⟩
  · injection h with h;subst h;exact⟨Tryz.func170,by kernel_rfl⟩
  · injection h with h;subst h;exact⟨Tryz.func169,by kernel_rfl⟩
  · injection h with h;subst h;exact⟨Tryz.func174,by kernel_rfl⟩
  · injection h with h;subst h;exact⟨Tryz.func175,by kernel_rfl⟩
  · injection h with h;subst h;exact⟨Tryz.func177,by kernel_rfl⟩
  · injection h with h;subst h;exact⟨Tryz.func176,by kernel_rfl⟩
  · injection h with h;subst h;exact⟨Tryz.func173,by kernel_rfl⟩
  · injection h with h;subst h;exact⟨Tryz.func172,by kernel_rfl⟩
  · injection h with h;subst h;exact⟨Tryz.func160,by kernel_rfl⟩
  · injection h with h;subst h;exact⟨Tryz.func115,by kernel_rfl⟩
  · injection h with h;subst h;exact⟨Tryz.func117,by kernel_rfl⟩
  · injection h with h;subst h;exact⟨Tryz.func116,by kernel_rfl⟩
  · injection h with h;subst h;exact⟨Tryz.func193,by kernel_rfl⟩
  · injection h with h;subst h;exact⟨Tryz.func182,by kernel_rfl⟩
  · injection h with h;subst h;exact⟨Tryz.func194,by kernel_rfl⟩
  · injection h with h;subst h;exact⟨Tryz.func178,by kernel_rfl⟩
  · injection h with h;subst h;exact⟨Tryz.func195,by kernel_rfl⟩
  · injection h with h;subst h;exact⟨Tryz.func196,by kernel_rfl⟩
  · injection h with h;subst h;exact⟨Tryz.func197,by kernel_rfl⟩
  · injection h with h;subst h;exact⟨Tryz.func198,by kernel_rfl⟩
  · injection h with h;subst h;exact⟨Tryz.func200,by kernel_rfl⟩
  · injection h with h;subst h;exact⟨Tryz.func180,by kernel_rfl⟩
  · injection h with h;subst h;exact⟨Tryz.func179,by kernel_rfl⟩
  · injection h with h;subst h;exact⟨Tryz.func202,by kernel_rfl⟩
  · injection h with h;subst h;exact⟨Tryz.func183,by kernel_rfl⟩
  · injection h with h;subst h;exact⟨Tryz.func203,by kernel_rfl⟩
  · injection h with h;subst h;exact⟨Tryz.func204,by kernel_rfl⟩
  · injection h with h;subst h;exact⟨Tryz.func205,by kernel_rfl⟩
  · injection h with h;subst h;exact⟨Tryz.func207,by kernel_rfl⟩
  · injection h with h;subst h;exact⟨Tryz.func208,by kernel_rfl⟩
  · injection h with h;subst h;exact⟨Tryz.func181,by kernel_rfl⟩
  · injection h with h;subst h;exact⟨Tryz.func209,by kernel_rfl⟩
  · injection h with h;subst h;exact⟨Tryz.func210,by kernel_rfl⟩
  · injection h with h;subst h;exact⟨Tryz.func211,by kernel_rfl⟩
  · injection h with h;subst h;exact⟨Tryz.func212,by kernel_rfl⟩
  · injection h with h;subst h;exact⟨Tryz.func165,by kernel_rfl⟩
  · injection h with h;subst h;exact⟨Tryz.func213,by kernel_rfl⟩
  · injection h with h;subst h;exact⟨Tryz.func168,by kernel_rfl⟩
  · injection h with h;subst h;exact⟨Tryz.func91,by kernel_rfl⟩
  · injection h with h;subst h;exact⟨Tryz.func215,by kernel_rfl⟩
  · injection h with h;subst h;exact⟨Tryz.func217,by kernel_rfl⟩
  · injection h with h;subst h;exact⟨Tryz.func218,by kernel_rfl⟩
  · injection h with h;subst h;exact⟨Tryz.func216,by kernel_rfl⟩
  · injection h with h;subst h;exact⟨Tryz.func222,by kernel_rfl⟩
  · injection h with h;subst h;exact⟨Tryz.func223,by kernel_rfl⟩
  · injection h with h;subst h;exact⟨Tryz.func224,by kernel_rfl⟩
  · injection h with h;subst h;exact⟨Tryz.func225,by kernel_rfl⟩
  · injection h with h;subst h;exact⟨Tryz.func226,by kernel_rfl⟩
  · injection h with h;subst h;exact⟨Tryz.func227,by kernel_rfl⟩
  · injection h with h;subst h;exact⟨Tryz.func228,by kernel_rfl⟩
  · injection h with h;subst h;exact⟨Tryz.func219,by kernel_rfl⟩
  · injection h with h;subst h;exact⟨Tryz.func229,by kernel_rfl⟩
  · injection h with h;subst h;exact⟨Tryz.func231,by kernel_rfl⟩
  · injection h with h;subst h;exact⟨Tryz.func230,by kernel_rfl⟩
  · injection h with h;subst h;exact⟨Tryz.func232,by kernel_rfl⟩
  · injection h with h;subst h;exact⟨Tryz.func234,by kernel_rfl⟩
  · injection h with h;subst h;exact⟨Tryz.func233,by kernel_rfl⟩
  · injection h with h;subst h;exact⟨Tryz.func236,by kernel_rfl⟩
  · injection h with h;subst h;exact⟨Tryz.func235,by kernel_rfl⟩
  · injection h with h;subst h;exact⟨Tryz.func237,by kernel_rfl⟩
  · injection h with h;subst h;exact⟨Tryz.func214,by kernel_rfl⟩
  · injection h with h;subst h;exact⟨Tryz.func239,by kernel_rfl⟩
  · injection h with h;subst h;exact⟨Tryz.func240,by kernel_rfl⟩
  · injection h with h;subst h;exact⟨Tryz.func241,by kernel_rfl⟩
  · injection h with h;subst h;exact⟨Tryz.func238,by kernel_rfl⟩
  · injection h with h;subst h;exact⟨Tryz.func242,by kernel_rfl⟩
  · injection h with h;subst h;exact⟨Tryz.func243,by kernel_rfl⟩
  · injection h with h;subst h;exact⟨Tryz.func244,by kernel_rfl⟩
  · injection h with h;subst h;exact⟨Tryz.func245,by kernel_rfl⟩
  · injection h with h;subst h;exact⟨Tryz.func248,by kernel_rfl⟩
  · injection h with h;subst h;exact⟨Tryz.func247,by kernel_rfl⟩
  · injection h with h;subst h;exact⟨Tryz.func246,by kernel_rfl⟩
  · injection h with h;subst h;exact⟨Tryz.func250,by kernel_rfl⟩
  · injection h with h;subst h;exact⟨Tryz.func252,by kernel_rfl⟩
  · injection h with h;subst h;exact⟨Tryz.func255,by kernel_rfl⟩
  · injection h with h;subst h;exact⟨Tryz.func254,by kernel_rfl⟩
  · injection h with h;subst h;exact⟨Tryz.func253,by kernel_rfl⟩
  · injection h with h;subst h;exact⟨Tryz.func257,by kernel_rfl⟩
  · injection h with h;subst h;exact⟨Tryz.func258,by kernel_rfl⟩
  · injection h with h;subst h;exact⟨Tryz.func259,by kernel_rfl⟩
  · injection h with h;subst h;exact⟨Tryz.func260,by kernel_rfl⟩
  · exact nomatch h
noncomputable def xt:FuncId→Option (Array Value→Sem Value)
  | 249=>some Extern.BytealgIndexByte.indexByte
  | 251=>some Extern.BytealgCount.count
  | _=>none
theorem xtOk:Co.XtOk Tryz.prog xt:=by
  intro g e h
  unfold xt at h
  split at h
  · injection h with h;subst h;exact⟨Tryz.f249,Tryz.func249,by kernel_rfl,by kernel_rfl,by kernel_rfl,by kernel_rfl⟩
  · injection h with h;subst h;exact⟨Tryz.f251,Tryz.func251,by kernel_rfl,by kernel_rfl,by kernel_rfl,by kernel_rfl⟩
  · exact nomatch h
end Aw15
end Go.Proofs.YtemhlkdingkjnaaGreatDoor
namespace Go.Proofs.YtemhlkdingkjnaaGreatDoor
open Go Go.Proofs
namespace Aw15
theorem runs (w:World):Calls Tryz.prog 8 #[] w λen w'=>en = .returned (.bool true)∧Va.Grow w w':=
  Co.run_says mixed tabIs xtOk ftOk (N:=1000) (d:=60) (by kernel_rfl) w
end Aw15
end Go.Proofs.YtemhlkdingkjnaaGreatDoor
