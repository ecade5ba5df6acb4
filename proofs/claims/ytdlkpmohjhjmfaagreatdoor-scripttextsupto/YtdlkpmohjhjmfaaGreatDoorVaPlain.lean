/-
  Va, part 31: small laws for the plain parts.
-/
import Derived.Test.YtdlkpmohjhjmfaaGreatDoorVaTab
import Derived.Lib.Bytealg
set_option linter.unusedVariables false
set_option linter.unusedSimpArgs false
namespace Go.Va
open Go
theorem yb6 {x:Int}(h : -9223372036854775808≤x∧x≤9223372036854775807):IntKind.i64.wrap x=x:=by
 simp[IntKind.wrap,IntKind.bits,IntKind.signed];omega
theorem wrap_u8 {x:Int}(h:0≤x∧x≤255):IntKind.u8.wrap x=x:=by
 simp[IntKind.wrap,IntKind.bits,IntKind.signed];omega
theorem ydD {x:Int}(h:0≤x∧x≤18446744073709551615):IntKind.u64.wrap x=x:=by
 simp[IntKind.wrap,IntKind.bits,IntKind.signed];omega
theorem wrap_u8_mod (x:Int):IntKind.u8.wrap x=x%256:=by
 simp[IntKind.wrap,IntKind.bits,IntKind.signed]
theorem wrap_u64_mod (x:Int):IntKind.u64.wrap x=x%18446744073709551616:=by
 simp[IntKind.wrap,IntKind.bits,IntKind.signed]
theorem yfj (s:ByteArray):s.size=s.data.toList.length:=by
 cases s;rfl
theorem size_of (s:ByteArray):s.size=(ybN s).length:=by
 unfold ybN;rw[List.length_map];exact yfj s
theorem bt_getD (s:ByteArray)(i:Int):bt s i=(ybN s).getD i.toNat 0:=by
 unfold bt ybN
 rw[List.getD_eq_getElem?_getD,List.getD_eq_getElem?_getD,List.getElem?_map]
 cases s.data.toList[i.toNat]?<;>rfl
theorem ofBytes_range {s:ByteArray}{x:Int}(h:x∈ybN s):0≤x∧x≤255:=by
 unfold ybN at h
 obtain⟨b,_,rfl⟩:=List.mem_map.1 h
 have:=b.toNat_lt
 omega
theorem bytesOf_ofBytes (s:ByteArray):yaT (ybN s)=s:=by
 unfold yaT ybN
 rw[List.map_map]
 have:(s.data.toList.map ((λn:Int=>UInt8.ofNat n.toNat)∘λb:UInt8=>(b.toNat:Int)))=s.data.toList:=by
  conv=>rhs;rw[← List.map_id s.data.toList]
  exact List.map_congr_left (λb _=>by simp)
 rw[this]
theorem yen {l:List Int}(h:∀ x∈l,0≤x∧x≤255):ybN (yaT l)=l:=by
 unfold yaT ybN
 simp only[List.map_map]
 conv=>rhs;rw[← List.map_id l]
 refine List.map_congr_left (λx hx => ?_)
 obtain⟨h1,h2⟩:=h x hx
 simp only[Function.comp,id]
 rw[UInt8.toNat_ofNat_of_lt' (by change x.toNat<256;omega)];omega
theorem yaE (a b:List Int):yaT (a++b)=yaT a++yaT b:=by
 unfold yaT
 apply ByteArray.ext
 simp
theorem ybF (s:ByteArray):eqS s s=true:=by unfold eqS;exact beq_self_eq_true _
def ix (d:ByteArray)(c:Int):Int:=Lib.indexByte d.data.toList c.toNat.toUInt8
theorem indexByte_lt (l:List UInt8)(c:UInt8):Lib.indexByte l c<l.length:=by
 induction l with
 | nil=>simp[Lib.indexByte]
 | cons b l ih=>
  unfold Lib.indexByte
  simp only[List.length_cons]
  split
  ·omega
  ·split<;>omega
theorem ix_range (d:ByteArray)(c:Int) : -1≤ix d c∧ix d c<d.size:=⟨Lib.indexByte_ge _ _,by rw[yfj];exact indexByte_lt _ _⟩
theorem getD_drop {l:List Int}{k:Nat}(h:k<l.length):l.drop k=l.getD k 0::l.drop (k+1):=by
 rw[List.getD_eq_getElem?_getD,List.getElem?_eq_getElem h]
 exact List.drop_eq_getElem_cons h
theorem or_low {k:IntKind}{a b:Int}{w:Nat}(hb:b.toNat<2 ^ w)(ha:0≤a)(hb0:0≤b)(h:a*2 ^ w+b<2 ^ (k.bits-1)):bitI .or k (a*2 ^ w) b=a*2 ^ w+b:=by
 obtain⟨m,rfl⟩:=Int.eq_ofNat_of_zero_le ha
 obtain⟨n,rfl⟩:=Int.eq_ofNat_of_zero_le hb0
 have hpos:0<k.bits:=by cases k<;>decide
 have h2:(2:Nat) ^ (k.bits-1)≤2 ^ k.bits:=Nat.pow_le_pow_right (by omega) (by omega)
 have hN:m*2 ^ w+n<2 ^ (k.bits-1):=by exact_mod_cast h
 have e1:((m:Int)*2 ^ w:Int)=((m*2 ^ w:Nat):Int):=by simp
 simp only[bitI]
 rw[e1]
 have ea:(BitVec.ofInt k.bits ((m*2 ^ w:Nat):Int)).toNat=m*2 ^ w:=by
  rw[BitVec.ofInt_natCast,BitVec.toNat_ofNat,Nat.mod_eq_of_lt];omega
 have eb:(BitVec.ofInt k.bits (n:Int)).toNat=n:=by
  rw[BitVec.ofInt_natCast,BitVec.toNat_ofNat,Nat.mod_eq_of_lt];omega
 rw[BitVec.toNat_or,ea,eb]
 have hn:n<2 ^ w:=by simpa using hb
 have e2:m*2 ^ w ||| n=m*2 ^ w+n:=by
  rw[Nat.mul_comm];exact (Nat.two_pow_add_eq_or_of_lt hn m).symm
 rw[e2]
 unfold IntKind.wrap
 have hlt:((m*2 ^ w+n:Nat):Int)%(2 ^ k.bits:Int)=((m*2 ^ w+n:Nat):Int):=by
  apply Int.emod_eq_of_lt (by omega)
  have:m*2 ^ w+n<2 ^ k.bits:=by omega
  exact_mod_cast this
 simp only[hlt]
 rw[if_neg]
 ·push_cast;rfl
 ·simp only[Bool.and_eq_true,decide_eq_true_eq,not_and]
  intro _
  have:((m*2 ^ w+n:Nat):Int)<(2:Int) ^ (k.bits-1):=by exact_mod_cast hN
  omega
theorem and_mask {k:IntKind}{a:Int}{w:Nat}(ha:0≤a)(ha2:a<2 ^ k.bits)(hw:w<k.bits):bitI .and k a (2 ^ w-1)=a%2 ^ w:=by
 obtain⟨m,rfl⟩:=Int.eq_ofNat_of_zero_le ha
 have hm:m<2 ^ k.bits:=by exact_mod_cast ha2
 have hpw:(2:Nat) ^ w<2 ^ k.bits:=Nat.pow_lt_pow_right (by omega) hw
 have hpw1:(2:Nat) ^ w≤2 ^ (k.bits-1):=Nat.pow_le_pow_right (by omega) (by omega)
 have hpos:=Nat.two_pow_pos w
 have e0:((2:Int) ^ w-1)=((2 ^ w-1:Nat):Int):=by rw[Int.ofNat_sub (by omega)];simp
 simp only[bitI]
 rw[e0]
 have ea:(BitVec.ofInt k.bits (m:Int)).toNat=m:=by
  rw[BitVec.ofInt_natCast,BitVec.toNat_ofNat,Nat.mod_eq_of_lt hm]
 have eb:(BitVec.ofInt k.bits ((2 ^ w-1:Nat):Int)).toNat=2 ^ w-1:=by
  rw[BitVec.ofInt_natCast,BitVec.toNat_ofNat,Nat.mod_eq_of_lt (by omega)]
 rw[BitVec.toNat_and,ea,eb,Nat.and_two_pow_sub_one_eq_mod]
 have hlt0:=Nat.mod_lt m hpos
 unfold IntKind.wrap
 have hlt:((m%2 ^ w:Nat):Int)%(2 ^ k.bits:Int)=((m%2 ^ w:Nat):Int):=by
  apply Int.emod_eq_of_lt (by omega)
  have:m%2 ^ w<2 ^ k.bits:=by omega
  exact_mod_cast this
 simp only[hlt]
 rw[if_neg]
 ·simp
 ·simp only[Bool.and_eq_true,decide_eq_true_eq,not_and]
  intro _
  have:m%2 ^ w<2 ^ (k.bits-1):=by omega
  have:((m%2 ^ w:Nat):Int)<(2:Int) ^ (k.bits-1):=by exact_mod_cast this
  omega
end Go.Va
namespace Go.Va
open Go
theorem extract_one {d:ByteArray}{a:Nat}(h:a<d.size):d.extract a (a+1)=yaT [bt d (a:Int)]:=by
 apply ByteArray.ext
 rw[ByteArray.data_extract]
 apply Array.ext'
 have hs:=yfj d
 unfold yaT bt
 simp only[Array.toList_extract,List.map_cons,List.map_nil,Int.toNat_natCast]
 rw[List.extract_eq_take_drop,show a+1-a=1 by omega,List.drop_eq_getElem_cons (by omega),List.getD_eq_getElem?_getD,List.getElem?_eq_getElem (by omega)]
 simp
theorem shr_eq {k:IntKind}{x:Int}{y:Nat}(hy:y≤k.bits):shrI k x (y:Int)=x/2 ^ y:=by
 unfold shrI
 rw[Int.toNat_natCast,Nat.min_eq_left hy]
 exact Int.fdiv_eq_ediv_of_nonneg _ (Int.le_of_lt (Int.pow_pos (by decide)))
end Go.Va
namespace Go.Va
open Go
end Go.Va
namespace Go.Va
open Go
end Go.Va
