/-
  Va, part 31: small laws for the plain parts.
-/
import Derived.Test.YtcpkhpboemfglaaGreatDoorVaTab
import Derived.Lib.Bytealg
set_option linter.unusedVariables false
set_option linter.unusedSimpArgs false
namespace Go.Va
open Go
theorem ycn {x:Int}(h : -9223372036854775808≤x∧x≤9223372036854775807):IntKind.i64.wrap x=x:=by
  simp[IntKind.wrap,IntKind.bits,IntKind.signed];omega
theorem ydT {x:Int}(h:0≤x∧x≤18446744073709551615):IntKind.u64.wrap x=x:=by
  simp[IntKind.wrap,IntKind.bits,IntKind.signed];omega
theorem wrap_u8_mod (x:Int):IntKind.u8.wrap x=x%256:=by
  simp[IntKind.wrap,IntKind.bits,IntKind.signed]
theorem wrap_u64_mod (x:Int):IntKind.u64.wrap x=x%18446744073709551616:=by
  simp[IntKind.wrap,IntKind.bits,IntKind.signed]
theorem size_eq (s:ByteArray):s.size=s.data.toList.length:=by
  cases s;rfl
theorem size_of (s:ByteArray):s.size=(ycN s).length:=by
  unfold ycN;rw[List.length_map];exact size_eq s
theorem bt_getD (s:ByteArray)(i:Int):bt s i=(ycN s).getD i.toNat 0:=by
  unfold bt ycN
  rw[List.getD_eq_getElem?_getD,List.getD_eq_getElem?_getD,List.getElem?_map]
  cases s.data.toList[i.toNat]?<;>rfl
theorem ofBytes_range {s:ByteArray}{x:Int}(h:x∈ycN s):0≤x∧x≤255:=by
  unfold ycN at h
  obtain⟨b,_,rfl⟩:=List.mem_map.1 h
  have:=b.toNat_lt
  omega
theorem bytesOf_ofBytes (s:ByteArray):ya4 (ycN s)=s:=by
  unfold ya4 ycN
  rw[List.map_map]
  have:(s.data.toList.map ((λn:Int=>UInt8.ofNat n.toNat)∘λb:UInt8=>(b.toNat:Int)))=s.data.toList:=by
    conv=>rhs;rw[← List.map_id s.data.toList]
    exact List.map_congr_left (λb _=>by simp)
  rw[this]
theorem ofBytes_bytesOf {l:List Int}(h:∀ x∈l,0≤x∧x≤255):ycN (ya4 l)=l:=by
  unfold ya4 ycN
  simp only[List.map_map]
  conv=>rhs;rw[← List.map_id l]
  refine List.map_congr_left (λx hx => ?_)
  obtain⟨h1,h2⟩:=h x hx
  simp only[Function.comp,id]
  rw[UInt8.toNat_ofNat_of_lt' (by change x.toNat<256;omega)];omega
theorem yaE (a b:List Int):ya4 (a++b)=ya4 a++ya4 b:=by
  unfold ya4
  apply ByteArray.ext
  simp
theorem yb2 (s:ByteArray):eqS s s=true:=by unfold eqS;exact beq_self_eq_true _
end Go.Va
namespace Go.Va
open Go
end Go.Va
namespace Go.Va
open Go
end Go.Va
namespace Go.Va
open Go
end Go.Va

