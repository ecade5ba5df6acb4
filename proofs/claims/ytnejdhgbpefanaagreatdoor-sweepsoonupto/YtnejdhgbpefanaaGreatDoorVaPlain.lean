/-
  Va, part 31: small laws for the plain parts.
-/
import Derived.Test.YtnejdhgbpefanaaGreatDoorVaTab
import Derived.Lib.Bytealg
set_option linter.unusedVariables false
set_option linter.unusedSimpArgs false
namespace Go.Va
open Go
theorem wrap_i64 {x:Int}(h : -9223372036854775808≤x∧x≤9223372036854775807):IntKind.i64.wrap x=x:=by
  simp[IntKind.wrap,IntKind.bits,IntKind.signed];omega
theorem size_eq (s:ByteArray):s.size=s.data.toList.length:=by
  cases s;rfl
theorem size_of (s:ByteArray):s.size=(ofBytes s).length:=by
  unfold ofBytes;rw[List.length_map];exact size_eq s
theorem bt_getD (s:ByteArray)(i:Int):bt s i=(ofBytes s).getD i.toNat 0:=by
  unfold bt ofBytes
  rw[List.getD_eq_getElem?_getD,List.getD_eq_getElem?_getD,List.getElem?_map]
  cases s.data.toList[i.toNat]?<;>rfl
theorem eqS_self (s:ByteArray):eqS s s=true:=by unfold eqS;exact beq_self_eq_true _
end Go.Va
namespace Go.Va
open Go
end Go.Va
namespace Go.Va
open Go
end Go.Va
namespace Go.Va
open Go
end Go.Va
